/- hawserlaw09.ArchTurned: whatever archive, place and byte it is handed, the law answers true: an archive one byte of which is another one is refused. No condition. -/
import Derived.Test.YtjajoiahgfafgaaDoorBArchTurned7
import Derived.Test.YtjajoiahgfafgaaDoorBArchTurned9
import Derived.Test.YtjajoiahgfafgaaDoorBArchTurned3
import Derived.Lib.SmallJoins
import Derived.Test.YtjajoiahgfafgaaDoorBCodeBase1
import Derived.ChangeArms
import Derived.Test.YtjajoiahgfafgaaDoorCards
import Derived.Test.YtjajoiahgfafgaaDoorTie
import Derived.Deep.DeepHandedRow
import Derived.Test.YtjajoiahgfafgaaDoorBArchTurned6
import Derived.Test.YtjajoiahgfafgaaDoorShelf
import Derived.Shelf.Vars
import Derived.Test.YtjajoiahgfafgaaDoorBArchTurned1
import Derived.Test.YtjajoiahgfafgaaDoorBArchTurned2
import Derived.LaidMore
set_option linter.unusedSimpArgs false
set_option linter.unusedVariables false

/- arch: the laws' awake; the document's Same. -/
section
set_option linter.unusedVariables false
namespace Go.Proofs.YtjajoiahgfafgaaDoor
open Go.RowKit Plain

namespace Plain
def eqSAt (a b : List Stp) (i : Nat) : Bool := a.getD i default == b.getD i default
theorem eqS_rest {a b : List Stp} (h : a.length = b.length) : restOK (eqSAt a b) 0 a.length = (a == b) := by
  rw [restOK_all, Bool.eq_iff_iff, List.all_eq_true, beq_iff_eq]
  constructor
  · intro q
    refine List.ext_getElem h fun i h1 h2 => ?_
    have := q i (List.mem_range.2 h1)
    unfold eqSAt at this
    simpa [List.getD, h1, h2] using this
  · rintro rfl i hi
    unfold eqSAt; simp
theorem stp_ne {x y : Stp} : (x == y) = ((x.ino == y.ino) && (x.size == y.size) && (x.time == y.time)) := by
  obtain ⟨p, k, m⟩ := x
  obtain ⟨p', k', m'⟩ := y
  rw [Bool.eq_iff_iff]
  simp only [beq_iff_eq, Bool.and_eq_true, Stp.mk.injEq, and_assoc]
end Plain
theorem fields_stamp : (Tryd.prog.fieldsOf 46).toList.map (fun f => (f.name == "_", f.type, f.offset)) = [(false, 3, 0), (false, 3, 1), (false, 3, 2)] := by kernel_rfl
theorem stp_eq (W : World) (x y : Stp) : (Op.equalIn 10000 46 (.agg (stV x).toArray) (.agg (stV y).toArray)).run Tryd.prog W = .ok (((x.ino == y.ino) && ((x.size == y.size) && ((x.time == y.time) && true)))) W := by
  obtain ⟨p, k, m⟩ := x
  obtain ⟨p', k', m'⟩ := y
  rw [run_equalIn_agg (d := 9999) _ _ _ _ (by kernel_rfl) (by kernel_rfl)]
  have hf := fields_stamp
  revert hf
  generalize (Tryd.prog.fieldsOf 46).toList = fs
  intro hf
  obtain ⟨f0, f1, f2, rfl⟩ : ∃ f0 f1 f2, fs = [f0, f1, f2] := by
    have hl : fs.length = 3 := by simpa using congrArg List.length hf
    clear hf
    match fs, hl with
    | [f0, f1, f2], _ => exact ⟨f0, f1, f2, rfl⟩
  simp only [List.map_cons, List.map_nil, List.cons.injEq, Prod.mk.injEq, and_true] at hf
  obtain ⟨⟨n0, t0, o0⟩, ⟨n1, t1, o1⟩, ⟨n2, t2, o2⟩⟩ := hf
  have hI := fun {xs : Array Value} {off : Nat} {v : Value} (hx : xs[off]? = some v) => part_cell (W := W) (ty := 3) Tryd.underlying3 rfl hx
  refine eqFields_step n0 (a := .int .i64 p) (b := .int .i64 p') (by rw [t0, o0]; exact hI rfl) (by rw [t0, o0]; exact hI rfl) (by rw [t0, run_equalIn_int (d := 9998) _ _ _ _ _ _ Tryd.underlying3]) ?_
  refine eqFields_step n1 (a := .int .i64 k) (b := .int .i64 k') (by rw [t1, o1]; exact hI rfl) (by rw [t1, o1]; exact hI rfl) (by rw [t1, run_equalIn_int (d := 9998) _ _ _ _ _ _ Tryd.underlying3]) ?_
  exact eqFields_step n2 (a := .int .i64 m) (b := .int .i64 m') (by rw [t2, o2]; exact hI rfl) (by rw [t2, o2]; exact hI rfl) (by rw [t2, run_equalIn_int (d := 9998) _ _ _ _ _ _ Tryd.underlying3]) rfl
theorem stp_neq (W : World) (x y : Stp) : (binOp .neq 46 (.agg (stV x).toArray) (.agg (stV y).toArray)).run Tryd.prog W = .ok (.bool (!(x == y))) W := by
  rw [run_neq_struct, stp_eq, Result.andThen_ok, stp_ne]
  simp only [Bool.and_true, Bool.and_assoc]

set_option maxHeartbeats 4000000 in
set_option maxRecDepth 100000 in
theorem rsame_any (a b : List Nd) (A B : Option Addr) (c d : Nat) (w : World) (ha : IsRows w 4 A (a.map ndV)) (hb : IsRows w 4 B (b.map ndV)) (hla : a.length ≤ 9223372036854775807) (hlb : b.length ≤ 9223372036854775807) :
    Calls Tryd.prog 21 #[.slice A a.length c, .slice B b.length d] w (Ret w (.bool (a == b))) := by
  by_cases hl : a.length = b.length
  · have HRES := Lib.hid (eq_rest hl)
    have HA := Lib.hid (fun W (h : Below w.heap.size w W) => ha.below h)
    have HB := Lib.hid (fun W (h : Below w.heap.size w W) => hb.below h)
    generalize (a == b) = res at *
    have HL := Lib.hid hl
    rw [← hl]
    clear ha hb hl
    go_enter Tryd.func21, Tryd.ntmps21
    go_wp2_with (fail)
    go_loopw [5] (fun t5 W => ∃ (i : Nat), i ≤ a.length ∧ t5 = .int .i64 i ∧ Hid (restOK (eqAt a b) i a.length = res) ∧ Hid (Below w.heap.size w W)) (fun t5 _ => a.length - (intOf t5).toNat)
    case atStart => exact ⟨0, by omega, rfl, HRES, Lib.hid (Below.refl _ _)⟩
    case round =>
      clear HRES
      obtain ⟨i, hi, rfl, HE, HW⟩ := hrel
      have i0 : (0 : Int) ≤ i := by omega
      by_cases hlt : i < a.length
      · have i1 : (i : Int) < a.length := by omega
        have e1 : IntKind.i64.wrap ((i : Int) + 1) = (i : Int) + 1 := IntWalk.i64_in _ (by omega)
        obtain ⟨ad, rfl, c0, c1, c2, c3⟩ := node_cells (HA.out _ HW.out) hlt
        obtain ⟨bd, rfl, d0, d1, d2, d3⟩ := node_cells (HB.out _ HW.out) (i := i) (by rw [← HL.out]; exact hlt)
        have hat := restOK_at (f := eqAt a b) hlt
        rw [HE.out] at hat
        rw [show eqAt a b i = (a.getD i default == b.getD i default) from rfl] at hat
        generalize a.getD i default = x at *
        generalize b.getD i default = y at *
        obtain ⟨p, k, dd, m⟩ := x
        obtain ⟨p', k', dd', m'⟩ := y
        simp only at c0 c1 c2 c3 d0 d1 d2 d3
        have HAT := Lib.hid hat
        clear hat
        cases hxy : (({ path := p, kind := k, data := dd, mode := m } : Nd) == { path := p', kind := k', data := dd', mode := m' }) with
        | false =>
          have HNE := fun W => node_neq W ⟨p, k, dd, m⟩ ⟨p', k', dd', m'⟩
          rw [hxy] at HNE
          unfold ndV at HNE
          simp only [Bool.not_false] at HNE
          have HRF := Lib.hid (show res = false by rw [HAT.out, hxy]; rfl)
          clear hxy
          go_wp2_with (fail)
          go_quiet (fail)
          go_wp2_with (fail)
          go_ret
          exact ⟨by rw [HRF.out]; first | rfl | simp, below_drewN HW.out _⟩
        | true =>
          have HNE := fun W => node_neq W ⟨p, k, dd, m⟩ ⟨p', k', dd', m'⟩
          rw [hxy] at HNE
          unfold ndV at HNE
          simp only [Bool.not_true] at HNE
          have HRF := Lib.hid (show restOK (eqAt a b) (i + 1) a.length = res by rw [HAT.out, hxy, Bool.true_and])
          clear hxy
          go_wp2_with (fail)
          go_quiet (fail)
          go_wp2_with (fail)
          go_roundw
          case rel => exact ⟨i + 1, by omega, by go_num, HRF, Lib.hid (below_drewN HW.out _)⟩
          case measure => simp [intOf]; omega
      · obtain rfl : i = a.length := by omega
        have i1 : decide ((a.length : Int) < (a.length : Int)) = false := by rw [decide_eq_false_iff_not]; omega
        have HE2 := Lib.hid (show res = true by rw [← HE.out, restOK_end])
        go_wp2_with (fail)
        go_ret
        exact ⟨by rw [HE2.out]; first | rfl | simp, HW.out⟩
  · have h1 : ((a.length : Int) == (b.length : Int)) = false := by
      rw [beq_eq_false_iff_ne]; omega
    have HRES := Lib.hid (show (a == b) = false by rw [beq_eq_false_iff_ne]; intro e; exact hl (by rw [e]))
    rw [HRES.out]
    clear hl
    go_enter Tryd.func21, Tryd.ntmps21
    go_wp2_with (fail)
    go_ret
    exact ⟨rfl, Below.refl _ _⟩

set_option maxHeartbeats 4000000 in
set_option maxRecDepth 100000 in
theorem rstamps_any (a b : List Stp) (A B : Option Addr) (c d : Nat) (w : World) (ha : IsRows w 3 A (a.map stV)) (hb : IsRows w 3 B (b.map stV)) (hla : a.length ≤ 9223372036854775807) (hlb : b.length ≤ 9223372036854775807) :
    Calls Tryd.prog 22 #[.slice A a.length c, .slice B b.length d] w (Ret w (.bool (a == b))) := by
  by_cases hl : a.length = b.length
  · have HRES := Lib.hid (eqS_rest hl)
    have HA := Lib.hid (fun W (h : Below w.heap.size w W) => ha.below h)
    have HB := Lib.hid (fun W (h : Below w.heap.size w W) => hb.below h)
    generalize (a == b) = res at *
    have HL := Lib.hid hl
    rw [← hl]
    clear ha hb hl
    go_enter Tryd.func22, Tryd.ntmps22
    go_wp2_with (fail)
    go_loopw [5] (fun t5 W => ∃ (i : Nat), i ≤ a.length ∧ t5 = .int .i64 i ∧ Hid (restOK (eqSAt a b) i a.length = res) ∧ Hid (Below w.heap.size w W)) (fun t5 _ => a.length - (intOf t5).toNat)
    case atStart => exact ⟨0, by omega, rfl, HRES, Lib.hid (Below.refl _ _)⟩
    case round =>
      clear HRES
      obtain ⟨i, hi, rfl, HE, HW⟩ := hrel
      have i0 : (0 : Int) ≤ i := by omega
      by_cases hlt : i < a.length
      · have i1 : (i : Int) < a.length := by omega
        have e1 : IntKind.i64.wrap ((i : Int) + 1) = (i : Int) + 1 := IntWalk.i64_in _ (by omega)
        obtain ⟨ad, rfl, c0, c1, c2⟩ := stp_cells (HA.out _ HW.out) hlt
        obtain ⟨bd, rfl, d0, d1, d2⟩ := stp_cells (HB.out _ HW.out) (i := i) (by rw [← HL.out]; exact hlt)
        have hat := restOK_at (f := eqSAt a b) hlt
        rw [HE.out] at hat
        rw [show eqSAt a b i = (a.getD i default == b.getD i default) from rfl] at hat
        generalize a.getD i default = x at *
        generalize b.getD i default = y at *
        obtain ⟨p, k, m⟩ := x
        obtain ⟨p', k', m'⟩ := y
        simp only at c0 c1 c2 d0 d1 d2
        have HAT := Lib.hid hat
        clear hat
        cases hxy : (({ ino := p, size := k, time := m } : Stp) == { ino := p', size := k', time := m' }) with
        | false =>
          have HNE := fun W => stp_neq W ⟨p, k, m⟩ ⟨p', k', m'⟩
          rw [hxy] at HNE
          unfold stV at HNE
          simp only [Bool.not_false] at HNE
          have HRF := Lib.hid (show res = false by rw [HAT.out, hxy]; rfl)
          clear hxy
          go_wp2_with (fail)
          go_quiet (fail)
          go_wp2_with (fail)
          go_ret
          exact ⟨by rw [HRF.out]; first | rfl | simp, below_drewN HW.out _⟩
        | true =>
          have HNE := fun W => stp_neq W ⟨p, k, m⟩ ⟨p', k', m'⟩
          rw [hxy] at HNE
          unfold stV at HNE
          simp only [Bool.not_true] at HNE
          have HRF := Lib.hid (show restOK (eqSAt a b) (i + 1) a.length = res by rw [HAT.out, hxy, Bool.true_and])
          clear hxy
          go_wp2_with (fail)
          go_quiet (fail)
          go_wp2_with (fail)
          go_roundw
          case rel => exact ⟨i + 1, by omega, by go_num, HRF, Lib.hid (below_drewN HW.out _)⟩
          case measure => simp [intOf]; omega
      · obtain rfl : i = a.length := by omega
        have i1 : decide ((a.length : Int) < (a.length : Int)) = false := by rw [decide_eq_false_iff_not]; omega
        have HE2 := Lib.hid (show res = true by rw [← HE.out, restOK_end])
        go_wp2_with (fail)
        go_ret
        exact ⟨by rw [HE2.out]; first | rfl | simp, HW.out⟩
  · have h1 : ((a.length : Int) == (b.length : Int)) = false := by
      rw [beq_eq_false_iff_ne]; omega
    have HRES := Lib.hid (show (a == b) = false by rw [beq_eq_false_iff_ne]; intro e; exact hl (by rw [e]))
    rw [HRES.out]
    clear hl
    go_enter Tryd.func22, Tryd.ntmps22
    go_wp2_with (fail)
    go_ret
    exact ⟨rfl, Below.refl _ _⟩


namespace Plain
def awA : Arc := ⟨[112], 3, [], []⟩
theorem awA_ok : checkA awA = true := by decide
theorem awA_small : Small awA := ⟨by decide, fun s hs => by cases hs⟩
theorem awA_enc : encodeA awA = (record (payA awA), 0) := by unfold encodeA; rw [awA_ok]; rfl
theorem awA_dec : decodeA (record (payA awA)) = (awA, 0) := decode_back awA_ok awA_small
end Plain
theorem nil_rows (w : World) (n : Nat) : IsRows w n none [] := fun k hk => absurd hk (by simp)

set_option maxHeartbeats 2000000 in
set_option maxRecDepth 100000 in
theorem aawake_any (m : Int) (w : World) (hL : Laid w m) : Calls Tryd.prog 5 #[] w (Ret w (.bool true)) := by
  have HE := Lib.hid (encode_any awA none 0 none 0 m w hL ⟨nil_rows _ _, nil_rows _ _, Nat.le_refl _, Nat.le_refl _, Nat.zero_le _, Nat.zero_le _, fun n hn => (by cases hn), by decide⟩ awA_small)
  have HD := Lib.hid (fun W (h : Below w.heap.size w W) => decode_any (record (payA awA)) m W (hL.below h) (by rw [record_length]; have := payA_length awA_ok; omega))
  rw [awA_enc] at HE
  rw [awA_dec] at HD
  simp only at HE
  generalize record (payA awA) = s at *
  clear hL
  go_enter Tryd.func5, Tryd.ntmps5
  go_wp2_with (fail)
  refine HE.out.mono ?_
  rintro e w1 ⟨rfl, hw1⟩
  have HB1 := Lib.hid hw1
  clear hw1
  go_wp2_with (fail)
  refine (HD.out _ HB1.out).mono ?_
  rintro e w2 ⟨A, c, B, d, rfl, -, hw2⟩
  have HB2 := Lib.hid (HB1.out.trans (hw2.mono HB1.out.size))
  clear hw2
  unfold arV awA
  go_wp2_with (fail)
  go_ret
  exact ⟨rfl, HB2.out.alloc HB2.out.size _⟩


set_option maxHeartbeats 2000000 in
set_option maxRecDepth 100000 in
theorem rarch_any (a b : Arc) (A : Option Addr) (c : Nat) (B : Option Addr) (d : Nat) (A' : Option Addr) (c' : Nat) (B' : Option Addr) (d' : Nat) (w : World) (hA : ArAt a A c B d w) (hB : ArAt b A' c' B' d' w) :
    Calls Tryd.prog 8 #[.agg (arV a A c B d).toArray, .agg (arV b A' c' B' d').toArray] w (Ret w (.bool ((a.pair == b.pair) && (a.serial == b.serial) && (a.tree == b.tree) && (a.stamps == b.stamps)))) := by
  have HSM := Lib.hid (fun W (h : Below w.heap.size w W) => rsame_any a.tree b.tree A A' c c' W (hA.rows.below h) (hB.rows.below h) hA.lenN hB.lenN)
  have HST := Lib.hid (fun W (h : Below w.heap.size w W) => rstamps_any a.stamps b.stamps B B' d d' W (hA.stps.below h) (hB.stps.below h) hA.lenS hB.lenS)
  obtain ⟨w0, hw0⟩ : ∃ w0, (w.alloc (.cells (arV a A c B d).toArray 25)).alloc (.cells (arV b A' c' B' d').toArray 25) = w0 := ⟨_, rfl⟩
  have HB0 := Lib.hid (show Below w.heap.size w w0 by rw [← hw0]; exact ((Below.refl w.heap.size w).alloc (Nat.le_refl _) _).alloc (by simp) _)
  have HS0 := Lib.hid (show w0.heap.size = w.heap.size + 2 by rw [← hw0]; simp)
  have HRA := Lib.hid (show w0.heap[w.heap.size]? = some (.cells (arV a A c B d).toArray 25 (0, 0)) by rw [← hw0, Below.heap_alloc _ _ _ (by simp)]; exact heap_alloc_new _ _)
  have HRB := Lib.hid (show w0.heap[w.heap.size + 1]? = some (.cells (arV b A' c' B' d').toArray 25 (0, 0)) by have := heap_alloc_new (w.alloc (.cells (arV a A c B d).toArray 25)) (.cells (arV b A' c' B' d').toArray 25); rw [← hw0]; simpa using this)
  have HW0 := Lib.hid hw0
  clear hA hB hw0
  obtain ⟨pair, serial, tree, stamps⟩ := a
  obtain ⟨pair', serial', tree', stamps'⟩ := b
  unfold arV at *
  simp only at HSM HST HRA HRB HW0 ⊢
  generalize (tree == tree') = bt at *
  generalize (stamps == stamps') = bs at *
  cases hpp : (pair == pair') with
  | false =>
    simp only [Bool.false_and]
    go_enter Tryd.func8, Tryd.ntmps8
    go_upto_region 1 with (fail)
    rw [HW0.out]
    have ta0 := cell_of_row w0 _ 0 _ _ _ HRA.out; have tb0 := cell_of_row w0 _ 0 _ _ _ HRB.out; have ta1 := cell_of_row w0 _ 1 _ _ _ HRA.out; have tb1 := cell_of_row w0 _ 1 _ _ _ HRB.out; have ta2 := cell_of_row w0 _ 2 _ _ _ HRA.out; have tb2 := cell_of_row w0 _ 2 _ _ _ HRB.out; have ta3 := cell_of_row w0 _ 3 _ _ _ HRA.out; have tb3 := cell_of_row w0 _ 3 _ _ _ HRB.out
    go_wp2_with (fail)
    go_ret
    exact ⟨rfl, HB0.out⟩
  | true =>
  cases hss : (serial == serial') with
  | false =>
    simp only [Bool.false_and, Bool.and_false]
    go_enter Tryd.func8, Tryd.ntmps8
    go_upto_region 1 with (fail)
    rw [HW0.out]
    have ta0 := cell_of_row w0 _ 0 _ _ _ HRA.out; have tb0 := cell_of_row w0 _ 0 _ _ _ HRB.out; have ta1 := cell_of_row w0 _ 1 _ _ _ HRA.out; have tb1 := cell_of_row w0 _ 1 _ _ _ HRB.out; have ta2 := cell_of_row w0 _ 2 _ _ _ HRA.out; have tb2 := cell_of_row w0 _ 2 _ _ _ HRB.out; have ta3 := cell_of_row w0 _ 3 _ _ _ HRA.out; have tb3 := cell_of_row w0 _ 3 _ _ _ HRB.out
    go_wp2_with (fail)
    go_ret
    exact ⟨rfl, HB0.out⟩
  | true =>
  simp only [Bool.true_and]
  cases bt with
  | false =>
    simp only [Bool.false_and]
    go_enter Tryd.func8, Tryd.ntmps8
    go_upto_region 1 with (fail)
    rw [HW0.out]
    have ta0 := cell_of_row w0 _ 0 _ _ _ HRA.out; have tb0 := cell_of_row w0 _ 0 _ _ _ HRB.out; have ta1 := cell_of_row w0 _ 1 _ _ _ HRA.out; have tb1 := cell_of_row w0 _ 1 _ _ _ HRB.out; have ta2 := cell_of_row w0 _ 2 _ _ _ HRA.out; have tb2 := cell_of_row w0 _ 2 _ _ _ HRB.out; have ta3 := cell_of_row w0 _ 3 _ _ _ HRA.out; have tb3 := cell_of_row w0 _ 3 _ _ _ HRB.out
    go_wp2_with (fail)
    refine (HSM.out _ HB0.out).mono ?_
    rintro e w1 ⟨rfl, hw1⟩
    go_wp2_with (fail)
    go_ret
    exact ⟨rfl, HB0.out.trans (hw1.mono HB0.out.size)⟩
  | true =>
    simp only [Bool.true_and]
    go_enter Tryd.func8, Tryd.ntmps8
    go_upto_region 1 with (fail)
    rw [HW0.out]
    have ta0 := cell_of_row w0 _ 0 _ _ _ HRA.out; have tb0 := cell_of_row w0 _ 0 _ _ _ HRB.out; have ta1 := cell_of_row w0 _ 1 _ _ _ HRA.out; have tb1 := cell_of_row w0 _ 1 _ _ _ HRB.out; have ta2 := cell_of_row w0 _ 2 _ _ _ HRA.out; have tb2 := cell_of_row w0 _ 2 _ _ _ HRB.out; have ta3 := cell_of_row w0 _ 3 _ _ _ HRA.out; have tb3 := cell_of_row w0 _ 3 _ _ _ HRB.out
    go_wp2_with (fail)
    refine (HSM.out _ HB0.out).mono ?_
    rintro e w1 ⟨rfl, hw1⟩
    have HB1 := Lib.hid (HB0.out.trans (hw1.mono HB0.out.size))
    have r3 := cell_of_row w1 _ 3 _ _ _ ((hw1.block _ (lt_of_heap HRA.out)).trans HRA.out)
    have s3 := cell_of_row w1 _ 3 _ _ _ ((hw1.block _ (lt_of_heap HRB.out)).trans HRB.out)
    clear hw1 ta0 ta1 ta2 ta3 tb0 tb1 tb2 tb3
    go_wp2_with (fail)
    refine (HST.out _ HB1.out).mono ?_
    rintro e w2 ⟨rfl, hw2⟩
    go_wp2_with (fail)
    go_ret
    exact ⟨rfl, HB1.out.trans (hw2.mono HB1.out.size)⟩
end Go.Proofs.YtjajoiahgfafgaaDoor
end

/- Opening of arguments: a slice of structs that is a cell of an argument; a struct of one-cell fields. -/
section
namespace Go.Proofs.YtjajoiahgfafgaaDoor
open Go.ChangeShapes Go.WideShapes Go.ChangeAt Go.RowKit Go.Deep

section
variable {H : Type} {enc : TypeId × Value → H} {P : Program} {w : World} {base : Nat} {held : Bool}
theorem open_rowsT {α : Type} [Inhabited α] (El : List Value → α → Prop) (wt : α → Nat) {t e : TypeId} {fs : Array Field} {v : Value} {d : DataW H} {ps : List MemPlace} (ht : P.underlying t = some (.slice e)) (he : P.underlying e = some (.struct fs))
    (hone : oneCellFields P fs = true) (hC : P.cellsOf e = fs.size)
    (hel : ∀ (vs : List Value) (ys : List (DataW H × List MemPlace)) n, vs.length = fs.size → ys.length = fs.size → (∀ (j : Nat) (f : Field), fs[j]? = some f → ∃ v y, vs[j]? = some v ∧ ys[j]? = some y ∧ DataW.trod enc P w base (fun _ => true) held n f.type [v] = some y) →
      ∃ x, El vs x ∧ wt x ≤ Rows.uptoBulk (DataW.agg (ys.map (·.1))))
    (hd : ∃ fuel, DataW.trod enc P w base (fun _ => true) held fuel t [v] = some (d, ps)) :
    ∃ A c, ∃ (l : List α) (V : List (List Value)), v = .slice A l.length c ∧ l.length ≤ c ∧ c ≤ maxLen ∧ V.length = l.length ∧ IsRows w fs.size A V ∧ (∀ k (h : k < l.length) (h' : k < V.length), El V[k] l[k]) ∧ (l.map wt).sum ≤ Rows.uptoBulk d := by
  obtain ⟨fuel, hf⟩ := hd
  rcases open_slice ht hf with ⟨hcs, hx⟩ | ⟨a, len, cap, m, n, D, Pl, hcs, _, hl, hm, hmm, hx, hcell⟩
  · simp only [List.cons.injEq, and_true] at hcs
    subst hcs
    simp only [Prod.mk.injEq] at hx
    exact ⟨none, 0, [], [], rfl, Nat.le_refl _, Nat.zero_le _, rfl, fun k h => absurd h (by simp), by simp, by simp⟩
  · simp only [List.cons.injEq, and_true] at hcs
    subst hcs
    simp only [if_true] at hmm
    subst hmm
    simp only [Prod.mk.injEq] at hx
    obtain ⟨X, hX⟩ := choose_lt (α := List Value × α) (p := fun i x => x.1.length = fs.size ∧ (∀ j u, x.1[j]? = some u → w.cell? (a.add (i * fs.size + j)) = some u) ∧ El x.1 x.2 ∧ wt x.2 ≤ Rows.uptoBulk (D i)) (n := len) (fun i hi => by
      obtain ⟨cs', hc, ht'⟩ := hcell i (by omega)
      rw [hC] at hc
      obtain ⟨ys, n', hn', hy, hlen, hyl, hf⟩ := DataW.trod_struct he ht'
      obtain ⟨_, hcl, hat⟩ := World.cells?_some hc
      simp only [Prod.mk.injEq] at hy
      obtain ⟨x, hx1, hx2⟩ := hel cs' ys n' hcl hyl (fun j f hj => by
        obtain ⟨ho, hk⟩ := hone_of hone j f hj
        have hjl : j < fs.size := (Array.getElem?_eq_some_iff.1 hj).1
        have hv : cs'[j]? = some (cs'[j]'(by omega)) := List.getElem?_eq_getElem (by omega)
        have h1 := hf j f hj
        rw [ho, hk] at h1
        have hone' : (cs'.drop j).take 1 = [cs'[j]'(by omega)] := by
          rw [List.drop_eq_getElem_cons (by omega)]
          rfl
        rw [hone'] at h1
        have hys : ys[j]? = some (ys[j]'(by omega)) := List.getElem?_eq_getElem (by omega)
        exact ⟨_, _, hv, hys, h1.trans hys⟩)
      refine ⟨(cs', x), hcl, fun j u hu => ?_, hx1, ?_⟩
      · have hj : j < fs.size := by
          have h1 : j < cs'.length := (List.getElem?_eq_some_iff.1 hu).1
          omega
        rw [← Go.Deep.add_add, hat j hj]
        exact hu
      · rw [hy.1]; exact hx2)
    refine ⟨some a, m, (List.range len).map (fun i => (X i).2), (List.range len).map (fun i => (X i).1), by simp, by simpa using hl, hm, by simp, ?_, ?_, ?_⟩
    · intro k h
      have hk : k < len := by simpa using h
      refine ⟨a, rfl, fun j u hu => (hX k hk).2.1 j u ?_⟩
      simpa using hu
    · intro k h h'
      have hk : k < len := by simpa using h
      simpa using (hX k hk).2.2.1
    · rw [hx.1, Rows.uptoBulk, List.map_map]
      have := bulkAll_range len D (fun i => wt (X i).2) (fun i hi => (hX i hi).2.2.2)
      have e : ((List.range len).map (wt ∘ fun i => (X i).2)).sum = ((List.range len).map (fun i => wt (X i).2)).sum := rfl
      omega
/-- A struct of one-cell fields among the arguments: its cells with their readings. -/
theorem open_aggN {r : Reach} {b0 : Nat} {t : TypeId} {fs : Array Field} {v : Value} {d : DataW H} {p : List MemPlace} (hs : P.underlying t = some (.struct fs)) (hone : oneCellFields P fs = true) (hC : P.cellsOf t = fs.size)
    (hv : Value.okWide P w r b0 t v) (h : DataW.Trod enc P w base (fun _ => true) held t v d p) :
    ∃ (vs : List Value) (ys : List (DataW H × List MemPlace)) (n : Nat), v = .agg vs.toArray ∧ vs.length = fs.size ∧ ys.length = fs.size ∧ d = .agg (ys.map (·.1)) ∧
      ∀ (j : Nat) (f : Field), fs[j]? = some f → ∃ v y, vs[j]? = some v ∧ ys[j]? = some y ∧ DataW.trod enc P w base (fun _ => true) held n f.type [v] = some y := by
  obtain ⟨cs, rfl, hsz⟩ := okWide_struct hs hv
  obtain ⟨fuel, hf⟩ := h
  obtain ⟨ys, n', hn', hy, hlen, hyl, hf⟩ := DataW.trod_struct hs hf
  simp only [Prod.mk.injEq] at hy
  have hcs : (Value.agg cs).cells.toList.length = fs.size := by rw [hlen, hC]
  have hcc : (Value.agg cs).cells.toList = cs.toList := by simp [Value.cells]
  refine ⟨cs.toList, ys, n', by simp, by rw [← hcc]; exact hcs, hyl, hy.1, fun j f hj => ?_⟩
  obtain ⟨ho, hk⟩ := hone_of hone j f hj
  have hjl : j < fs.size := (Array.getElem?_eq_some_iff.1 hj).1
  have hl : cs.toList.length = fs.size := by rw [← hcc]; exact hcs
  have h1 := hf j f hj
  rw [ho, hk, hcc] at h1
  have hone' : (cs.toList.drop j).take 1 = [cs.toList[j]'(by omega)] := by
    rw [List.drop_eq_getElem_cons (by omega)]
    rfl
  rw [hone'] at h1
  have hys : ys[j]? = some (ys[j]'(by omega)) := List.getElem?_eq_getElem (by omega)
  exact ⟨_, _, List.getElem?_eq_getElem (by omega), hys, h1.trans hys⟩
end
end Go.Proofs.YtjajoiahgfafgaaDoor
end

/- A cell that reads at a string's type. -/
section
namespace Go.Proofs.YtjajoiahgfafgaaDoor

section
variable {H : Type} {enc : TypeId × Value → H} {P : Program} {w : World} {base : Nat} {spare : Nat → Bool} {held : Bool} {t : TypeId}
/-- A cell that reads at a string's type. -/
theorem trod_str {fuel : Nat} {c : Value} {y : DataW H × List MemPlace} (ht : P.underlying t = some .string) (h : DataW.trod enc P w base spare held fuel t [c] = some y) :
    ∃ s : List UInt8, c = .string ⟨s.toArray⟩ ∧ y = (.lit (.string s), []) ∧ s.length ≤ maxLen := by
  obtain ⟨b, hb, rfl, hl⟩ := DataW.trod_string ht h
  simp only [List.cons.injEq, and_true] at hb
  subst hb
  exact ⟨b.data.toList, by cases b; simp, rfl, by simpa only [ByteArray.size, Array.length_toList] using hl⟩
end
end Go.Proofs.YtjajoiahgfafgaaDoor
end

/- The frame of a card: a world that holds the listed tables; no parameter wants a stand-in. -/
section
namespace Go.Proofs.YtjajoiahgfafgaaDoor
open Go.ChangeShapes Go.WideShapes Go.ChangeAt Go.RowKit

/-- A table's cells, off its datum. -/
def lits0 : DataW Unit → List Value
  | .lit (.int k n) => [.int k n]
  | _ => []
def lits1 : DataW Unit → List Value
  | .agg ps => ps.flatMap lits0
  | d => lits0 d
def lits2 : DataW Unit → List Value
  | .agg ps => ps.flatMap lits1
  | d => lits1 d
def layAt (h : Array Obj) (g : Nat) (d : DataW Unit) : Array Obj := h.modify g fun
  | .cells _ t frozen => .cells (lits2 d).toArray t frozen
  | o => o
/-- The settled world, the tables laid. -/
noncomputable def laidWorld (os : Os) : World :=
  { World.holding Tryd.prog os ⟨#[], #[], []⟩ with heap := layAt (layAt (World.holding Tryd.prog os ⟨#[], #[], []⟩).heap 2 Rows.laid_unicode_utf8_acceptRanges) 1 Rows.laid_unicode_utf8_first }

theorem card_plain {b : Bool} {name : String} {f0 : FuncId} {fn0 : Func} (hf0 : Tryd.pinned.checked.prog.funcNamed name = some f0) (hfn0 : Tryd.pinned.checked.prog.funcs[f0]? = some fn0) (hl : Tryd.pinned.checked.prog.looks [] = b)
    (ha : (fn0.params.toList.all fun t => !Tryd.pinned.checked.prog.wantsStandIn t) = true) (f : FuncId) (fn : Func) (hf : Tryd.pinned.checked.prog.funcNamed name = some f) (hfn : Tryd.pinned.checked.prog.funcs[f]? = some fn) :
    b = Tryd.pinned.checked.prog.looks [] ∧ ∀ (j : Nat) t, fn.params[j]? = some t → Tryd.pinned.checked.prog.wantsStandIn t = false := by
  obtain rfl : f0 = f := Option.some.inj (hf0.symm.trans hf)
  obtain rfl : fn0 = fn := Option.some.inj (hfn0.symm.trans hfn)
  refine ⟨hl.symm, fun j t ht => ?_⟩
  have hm : t ∈ fn0.params.toList := by
    rw [← Array.getElem?_toList] at ht
    exact List.mem_of_getElem? ht
  have := List.all_eq_true.1 ha t hm
  simpa using this

end Go.Proofs.YtjajoiahgfafgaaDoor
end

/- Opening of arguments: nodes, stamps, an archive. -/
section
namespace Go.Proofs.YtjajoiahgfafgaaDoor
open Go.ChangeShapes Go.WideShapes Go.ChangeAt Go.RowKit Go.Deep Plain

def OkI (n : Int) : Prop := -9223372036854775808 ≤ n ∧ n ≤ 9223372036854775807
section
variable {H : Type} {enc : TypeId × Value → H} {w : World} {base : Nat} {held : Bool}
set_option maxRecDepth 100000 in
theorem open_nodes {v : Value} {d : DataW H} {ps : List MemPlace} (hd : ∃ fuel, DataW.trod enc Tryd.prog w base (fun _ => true) held fuel 22 [v] = some (d, ps)) :
    ∃ A c, ∃ l : List Nd, v = .slice A l.length c ∧ l.length ≤ c ∧ c ≤ maxLen ∧ IsRows w 4 A (l.map ndV) ∧ (∀ o ∈ l, (OkI o.kind ∧ OkI o.mode) ∧ o.path.length ≤ 9223372036854775807 ∧ o.data.length ≤ 9223372036854775807) ∧ (l.map fun o => o.path.length + o.data.length + 1).sum ≤ Rows.uptoBulk d := by
  obtain ⟨A, c, l, V, h1, h2, h3, h4, h5, h6, h7⟩ := open_rowsT (α := Nd) (fun vs x => vs = ndV x ∧ (OkI x.kind ∧ OkI x.mode) ∧ x.path.length ≤ 9223372036854775807 ∧ x.data.length ≤ 9223372036854775807) (fun x => x.path.length + x.data.length + 1) Tryd.underlying22 Tryd.underlying44 (by kernel_rfl) (by kernel_rfl) (fun vs ys n hv hy hf => by
    obtain ⟨v0, y0, a0, c0, t0⟩ := hf 0 _ rfl
    obtain ⟨v1, y1, a1, c1, t1⟩ := hf 1 _ rfl
    obtain ⟨v2, y2, a2, c2, t2⟩ := hf 2 _ rfl
    obtain ⟨v3, y3, a3, c3, t3⟩ := hf 3 _ rfl
    obtain ⟨m0, e0, f0, l0⟩ := trod_str Tryd.underlying9 t0
    obtain ⟨m1, e1, f1, k1⟩ := DataW.trod_int Tryd.underlying3 t1
    obtain ⟨m2, e2, f2, l2⟩ := trod_str Tryd.underlying9 t2
    obtain ⟨m3, e3, f3, k3⟩ := DataW.trod_int Tryd.underlying3 t3
    simp only [List.cons.injEq, and_true] at e1 e3
    subst e0 e1 e2 e3 f0 f2
    have l1 := bounds_i64 k1
    have l3 := bounds_i64 k3
    refine ⟨⟨m0, m1, m2, m3⟩, ⟨?_, ⟨l1, l3⟩, l0, l2⟩, ?_⟩
    · match vs, hv with
      | [b0, b1, b2, b3], _ =>
        simp at a0 a1 a2 a3
        rw [a0, a1, a2, a3]; rfl
    · match ys, hy with
      | [z0, z1, z2, z3], _ =>
        simp at c0 c2
        subst c0 c2
        simp only [List.map_cons, List.map_nil, Rows.uptoBulk, Rows.uptoBulkAll]
        omega) hd
  have hV : V = l.map ndV := List.ext_getElem (by rw [h4, List.length_map]) (fun k h h' => by rw [(h6 k (by simpa using h') h).1]; simp)
  subst hV
  refine ⟨A, c, l, h1, h2, h3, h5, fun o ho => ?_, h7⟩
  obtain ⟨k, hk, rfl⟩ := List.getElem_of_mem ho
  exact (h6 k hk (by simpa using hk)).2
set_option maxRecDepth 100000 in
theorem open_nodesW {r : Reach} {b0 : Nat} {v : Value} {d : DataW H} {ps : List MemPlace} (hval : Value.okWide Tryd.prog w r b0 22 v) (hd : DataW.Trod enc Tryd.prog w base (fun _ => true) held 22 v d ps) :
    ∃ A c, ∃ l : List Nd, v = .slice A l.length c ∧ l.length ≤ c ∧ c ≤ maxLen ∧ IsRows w 4 A (l.map ndV) ∧ (∀ o ∈ l, (OkI o.kind ∧ OkI o.mode) ∧ o.path.length ≤ 9223372036854775807 ∧ o.data.length ≤ 9223372036854775807) ∧ (l.map fun o => o.path.length + o.data.length + 1).sum ≤ Rows.uptoBulk d := by
  obtain ⟨a0, len, cap, rfl⟩ := okWide_slice Tryd.underlying22 hval
  obtain ⟨fuel, hf⟩ := hd
  exact open_nodes ⟨fuel, by simpa [Value.cells] using hf⟩
set_option maxRecDepth 100000 in
theorem open_stamps {v : Value} {d : DataW H} {ps : List MemPlace} (hd : ∃ fuel, DataW.trod enc Tryd.prog w base (fun _ => true) held fuel 23 [v] = some (d, ps)) :
    ∃ A c, ∃ l : List Stp, v = .slice A l.length c ∧ l.length ≤ c ∧ c ≤ maxLen ∧ IsRows w 3 A (l.map stV) ∧ (∀ o ∈ l, OkI o.ino ∧ OkI o.size ∧ OkI o.time) ∧ (l.map fun _ => 1).sum ≤ Rows.uptoBulk d := by
  obtain ⟨A, c, l, V, h1, h2, h3, h4, h5, h6, h7⟩ := open_rowsT (α := Stp) (fun vs x => vs = stV x ∧ OkI x.ino ∧ OkI x.size ∧ OkI x.time) (fun x => 1) Tryd.underlying23 Tryd.underlying46 (by kernel_rfl) (by kernel_rfl) (fun vs ys n hv hy hf => by
    obtain ⟨v0, y0, a0, c0, t0⟩ := hf 0 _ rfl
    obtain ⟨v1, y1, a1, c1, t1⟩ := hf 1 _ rfl
    obtain ⟨v2, y2, a2, c2, t2⟩ := hf 2 _ rfl
    obtain ⟨m0, e0, f0, k0⟩ := DataW.trod_int Tryd.underlying3 t0
    obtain ⟨m1, e1, f1, k1⟩ := DataW.trod_int Tryd.underlying3 t1
    obtain ⟨m2, e2, f2, k2⟩ := DataW.trod_int Tryd.underlying3 t2
    simp only [List.cons.injEq, and_true] at e0 e1 e2
    subst e0 e1 e2
    have l0 := bounds_i64 k0
    have l1 := bounds_i64 k1
    have l2 := bounds_i64 k2
    refine ⟨⟨m0, m1, m2⟩, ⟨?_, l0, l1, l2⟩, ?_⟩
    · match vs, hv with
      | [b0, b1, b2], _ =>
        simp at a0 a1 a2
        rw [a0, a1, a2]; rfl
    · match ys, hy with
      | [z0, z1, z2], _ =>
        simp only [List.map_cons, List.map_nil, Rows.uptoBulk, Rows.uptoBulkAll]
        omega) hd
  have hV : V = l.map stV := List.ext_getElem (by rw [h4, List.length_map]) (fun k h h' => by rw [(h6 k (by simpa using h') h).1]; simp)
  subst hV
  refine ⟨A, c, l, h1, h2, h3, h5, fun o ho => ?_, h7⟩
  obtain ⟨k, hk, rfl⟩ := List.getElem_of_mem ho
  exact (h6 k hk (by simpa using hk)).2
set_option maxRecDepth 100000 in
theorem open_arc {r : Reach} {b0 : Nat} {v : Value} {d : DataW H} {ps : List MemPlace} (hval : Value.okWide Tryd.prog w r b0 25 v) (hd : DataW.Trod enc Tryd.prog w base (fun _ => true) held 25 v d ps) :
    ∃ a A c B e, v = .agg (arV a A c B e).toArray ∧ ArAt a A c B e w ∧ Small a ∧ a.pair.length + (a.tree.map fun o => o.path.length + o.data.length + 1).sum ≤ Rows.uptoBulk d := by
  obtain ⟨vs, ys, n, rfl, hv, hy, rfl, hf⟩ := open_aggN Tryd.underlying25 (by kernel_rfl) (by kernel_rfl) hval hd
  obtain ⟨v0, y0, a0, b0, t0⟩ := hf 0 _ rfl
  obtain ⟨v1, y1, a1, b1, t1⟩ := hf 1 _ rfl
  obtain ⟨v2, y2, a2, b2, t2⟩ := hf 2 _ rfl
  obtain ⟨v3, y3, a3, b3, t3⟩ := hf 3 _ rfl
  obtain ⟨m0, e0, f0, l0⟩ := trod_str Tryd.underlying9 t0
  obtain ⟨m1, e1, f1, k1⟩ := DataW.trod_int Tryd.underlying3 t1
  obtain ⟨A, c, t, e2, hc, hm, hr, hk, hw⟩ := open_nodes (d := y2.1) (ps := y2.2) ⟨n, t2⟩
  obtain ⟨B, dd, s, e3, hc3, hm3, hr3, hk3, hw3⟩ := open_stamps (d := y3.1) (ps := y3.2) ⟨n, t3⟩
  simp only [List.cons.injEq, and_true] at e1
  have l1 := bounds_i64 k1
  subst e0 e1 e2 e3
  unfold maxLen at hm hm3
  refine ⟨⟨m0, m1, t, s⟩, A, c, B, dd, ?_, ⟨hr, hr3, hc, hc3, Nat.le_trans hc hm, Nat.le_trans hc3 hm3, fun n hn => (hk n hn).2, l0⟩, ⟨by show m1 < _; omega, fun x hx => ?_⟩, ?_⟩
  · match vs, hv with
    | [q0, q1, q2, q3], _ =>
      simp at a0 a1 a2 a3
      rw [a0, a1, a2, a3]; rfl
  · have := hk3 x hx
    unfold OkI at this
    omega
  · match ys, hy with
    | [z0, z1, z2, z3], _ =>
      simp at b0 b2
      subst b0 b2
      subst f0
      simp only [List.map_cons, List.map_nil, Rows.uptoBulk, Rows.uptoBulkAll]
      omega
end
end Go.Proofs.YtjajoiahgfafgaaDoor
end

/- A library's variable holds some int. -/
section
namespace Go.Proofs.YtjajoiahgfafgaaDoor
open Go.RowKit
theorem cell_maxLen {W : World} (hS : W.ShapedOpen Tryd.prog) : ∃ m, W.cell? ⟨0, 0, none⟩ = some (.int .i64 m) :=
  cell_of_shapedOpen_int (zero := #[.int .i64 0]) (t := 3) hS (of_decide_eq_true (by kernel_rfl)) (by kernel_rfl) rfl (by kernel_rfl) (by kernel_rfl) Tryd.underlying3
end Go.Proofs.YtjajoiahgfafgaaDoor
end

/- The listed tables, as a call may lean on them. -/
section
namespace Go.Proofs.YtjajoiahgfafgaaDoor
open Go.RowKit

theorem extra196 : Go.Proofs.U8Extra Tryd.prog lays196_ren := {
  n3 := by kernel_rfl
  n4 := by kernel_rfl
  y3 := by kernel_rfl
  y4 := by kernel_rfl
  c5 := by kernel_rfl
  c119 := by kernel_rfl
  c138 := by kernel_rfl }
theorem first_same : Lib.firstData = Rows.laid_unicode_utf8_first := by kernel_rfl
theorem accept_same : Lib.acceptData = Rows.laid_unicode_utf8_acceptRanges := by kernel_rfl
theorem tabs_of_laid {W : World} (h : laidMetH Tryd.prog [("unicode/utf8.acceptRanges", Rows.laid_unicode_utf8_acceptRanges), ("unicode/utf8.first", Rows.laid_unicode_utf8_first)] W) : Tabs W := by
  rw [MakeChecks.laidMetH_plain _ _ _ (by kernel_rfl)] at h
  obtain ⟨ps, hps, _⟩ := h
  exact Go.Proofs.utf8Tabs_of_readsT (Go.Proofs.U8Types.of196 lays196) extra196 (by rw [first_same]; exact Lib.LaidVars_reads hps _ _ (by simp)) (by rw [accept_same]; exact Lib.LaidVars_reads hps _ _ (by simp))
theorem laid_of {W : World} (hL : laidMetH Tryd.prog [("unicode/utf8.acceptRanges", Rows.laid_unicode_utf8_acceptRanges), ("unicode/utf8.first", Rows.laid_unicode_utf8_first)] W) (hS : W.ShapedOpen Tryd.prog) : ∃ m, Laid W m := by
  obtain ⟨m, hm⟩ := cell_maxLen hS
  exact ⟨m, tabs_of_laid hL, hm⟩
end Go.Proofs.YtjajoiahgfafgaaDoor
end

section
set_option linter.unusedVariables false
namespace Go.Proofs.YtjajoiahgfafgaaDoor
open Go.RowKit Plain

namespace Plain
theorem decode_bad {t : List UInt8} (h : (one t).2 ≠ 0) : decodeA t = (zeroA, 90) := by unfold decodeA; rw [if_pos (.inl h)]
end Plain

set_option maxHeartbeats 4000000 in
set_option maxRecDepth 100000 in
theorem ArchTurned_any (a : Arc) (A : Option Addr) (c : Nat) (B : Option Addr) (d : Nat) (at_ y : Int) (m : Int) (w : World) (hL : Laid w m) (hA : ArAt a A c B d w) (sa : Small a) (hy : 0 ≤ y ∧ y < 256) :
    Calls Tryd.prog 3 #[.agg (arV a A c B d).toArray, .int .i64 at_, .int .u8 y] w (Ret w (.bool true)) := by
  have HAW := Lib.hid (fun W (h : Below w.heap.size w W) => aawake_any m W (hL.below h))
  have HEA := Lib.hid (fun W (h : Below w.heap.size w W) => encode_any a A c B d m W (hL.below h) (hA.below h) sa)
  have HLA := Lib.hid (fun W (h : Below w.heap.size w W) => hL.below h)
  obtain ⟨w0, hw0⟩ : ∃ w0, w.alloc (.cells (arV a A c B d).toArray 25) = w0 := ⟨_, rfl⟩
  have HW0 := Lib.hid hw0
  have HB0 := Lib.hid (show Below w.heap.size w w0 by rw [← hw0]; exact (Below.refl w.heap.size w).alloc (Nat.le_refl _) _)
  have HRA := Lib.hid (show w0.heap[w.heap.size]? = some (.cells (arV a A c B d).toArray 25 (0, 0)) by rw [← hw0]; exact heap_alloc_new _ _)
  have HRW := Lib.hid (show ∀ W, Below w0.heap.size w0 W → W.heap[w.heap.size]? = some (.cells (arV a A c B d).toArray 25 (0, 0)) from fun W h => (h.block _ (lt_of_heap HRA.out)).trans HRA.out)
  have HUP := Lib.hid (show ∀ W, Below w0.heap.size w0 W → Below w.heap.size w W from fun W h => HB0.out.trans (h.mono HB0.out.size))
  clear hL hw0
  cases hck : checkA a with
  | false =>
    have HEN := Lib.hid (show encodeA a = ([], 90) by unfold encodeA; rw [hck]; rfl)
    rw [HEN.out] at HEA
    clear hck hA
    unfold arV at *
    go_enter Tryd.func3, Tryd.ntmps3
    go_upto_region 1 with (fail)
    rw [HW0.out]
    go_wp2_with (fail)
    refine (HAW.out _ HB0.out).mono ?_
    rintro e w1 ⟨rfl, hw1⟩
    have HB1 := Lib.hid (HB0.out.trans (hw1.mono HB0.out.size))
    have hr := HRW.out w1 hw1
    have p0 := cell_of_row w1 _ 0 _ _ _ hr
    have p1 := cell_of_row w1 _ 1 _ _ _ hr
    have p2 := cell_of_row w1 _ 2 _ _ _ hr
    have p3 := cell_of_row w1 _ 3 _ _ _ hr
    clear hw1 hr
    go_wp2_with (fail)
    refine (HEA.out _ HB1.out).mono ?_
    rintro e w2 ⟨rfl, hw2⟩
    clear p0 p1 p2 p3
    go_wp2_with (fail)
    go_ret
    exact ⟨rfl, HB1.out.trans (hw2.mono HB1.out.size)⟩
  | true =>
    have HEN := Lib.hid (show encodeA a = (record (payA a), 0) by unfold encodeA; rw [hck]; rfl)
    rw [HEN.out] at HEA
    have hsm := payA_length hck
    have hl := record_length (payA a)
    simp only at HEA
    clear hA
    have hlr : (record (payA a)).length ≤ 1048584 := by omega
    have hpo : 0 < (record (payA a)).length := by omega
    by_cases hneg : at_ < 0 ∨ ((record (payA a)).length : Int) ≤ at_ ∨ y = 0
    · have HL := Lib.hid hlr
      generalize record (payA a) = r at *
      clear hck hsm hl
      unfold arV at *
      obtain ⟨b0, h0⟩ : ∃ b, decide (at_ < 0) = b := ⟨_, rfl⟩
      obtain ⟨b1, h1⟩ : ∃ b, decide ((r.length : Int) ≤ at_) = b := ⟨_, rfl⟩
      obtain ⟨b2, h2⟩ : ∃ b, (y == 0) = b := ⟨_, rfl⟩
      have hb : b0 = true ∨ b1 = true ∨ b2 = true := by
        rw [← h0, ← h1, ← h2]
        simpa using hneg
      have HBB := Lib.hid hb
      clear hneg hb
      cases b0
      all_goals cases b1
      all_goals cases b2
      all_goals first
        | (exfalso; have := HBB.out; simp at this; done)
        | (go_enter Tryd.func3, Tryd.ntmps3
           go_upto_region 1 with (fail)
           rw [HW0.out]
           go_wp2_with (fail)
           refine (HAW.out _ HB0.out).mono ?_
           rintro e w1 ⟨rfl, hw1⟩
           have HB1 := Lib.hid (HB0.out.trans (hw1.mono HB0.out.size))
           have hr := HRW.out w1 hw1
           have p0 := cell_of_row w1 _ 0 _ _ _ hr
           have p1 := cell_of_row w1 _ 1 _ _ _ hr
           have p2 := cell_of_row w1 _ 2 _ _ _ hr
           have p3 := cell_of_row w1 _ 3 _ _ _ hr
           clear hw1 hr
           go_wp2_with (fail)
           refine (HEA.out _ HB1.out).mono ?_
           rintro e w2 ⟨rfl, hw2⟩
           clear p0 p1 p2 p3
           go_wp2_with (fail)
           go_ret
           exact ⟨rfl, HB1.out.trans (hw2.mono HB1.out.size)⟩)
    · obtain ⟨k, rfl⟩ := Int.eq_ofNat_of_zero_le (show 0 ≤ at_ by omega)
      obtain ⟨dd, rfl⟩ := Int.eq_ofNat_of_zero_le hy.1
      have hk : k < (record (payA a)).length := by omega
      have hd : dd < 256 := by omega
      have hd0 : ((dd : Int) == 0) = false := by simpa using (by omega : ¬ dd = 0)
      have hki : (k : Int) < ((record (payA a)).length : Int) := by omega
      have hki2 : decide (((record (payA a)).length : Int) ≤ (k : Int)) = false := by rw [decide_eq_false_iff_not]; omega
      have hx : (record (payA a))[k].toNat ^^^ dd < 256 := by
        have := Nat.xor_lt_two_pow (n := 8) (x := (record (payA a))[k].toNat) (y := dd) ((record (payA a))[k].toNat_lt) (by omega); omega
      have hxor := u8_xor_nat (record (payA a))[k].toNat dd ((record (payA a))[k].toNat_lt) hd
      have hsplit : record (payA a) = (record (payA a)).take k ++ (record (payA a))[k] :: (record (payA a)).drop (k + 1) := by
        rw [← List.drop_eq_getElem_cons hk, List.take_append_drop]
      have hne : (record (payA a))[k] ≠ UInt8.ofNat ((record (payA a))[k].toNat ^^^ dd) := by
        intro he
        have h1 := congrArg UInt8.toNat he
        rw [UInt8.toNat_ofNat', Nat.mod_eq_of_lt hx] at h1
        have h2 := congrArg (· ^^^ (record (payA a))[k].toNat) h1
        simp only [Nat.xor_self] at h2
        rw [Nat.xor_comm, ← Nat.xor_assoc, Nat.xor_self, Nat.zero_xor] at h2
        omega
      have hone := decode_turned hck _ _ hne hsplit
      generalize ht : (record (payA a)).take k ++ UInt8.ofNat ((record (payA a))[k].toNat ^^^ dd) :: (record (payA a)).drop (k + 1) = t at *
      have htl : t.length = (record (payA a)).length := by rw [← ht]; simp; omega
      have hset : t = (record (payA a)).set k (UInt8.ofNat ((record (payA a))[k].toNat ^^^ dd)) := by rw [← ht, List.set_eq_take_append_cons_drop, if_pos hk]
      generalize hxx : (record (payA a))[k].toNat ^^^ dd = x at *
      have HDC := Lib.hid (fun W (h : Below w.heap.size w W) => (decode_bad hone ▸ decode_any t m W (HLA.out W h) (by omega) : Calls Tryd.prog 7 #[.string ⟨t.toArray⟩] W (ArcOut W (zeroA, 90))))
      generalize record (payA a) = r at *
      generalize hc : r[k] = cc at *
      have HSET := Lib.hid hset
      have HC := Lib.hid hc
      have HTL := Lib.hid htl
      have htl1 : t.length ≤ r.length := by omega
      clear hneg hsplit hne ht hy hset hc hl htl hxx hone hck hsm hpo
      unfold arV at *
      go_enter Tryd.func3, Tryd.ntmps3
      go_upto_region 1 with (fail)
      rw [HW0.out]
      go_wp2_with (fail)
      refine (HAW.out _ HB0.out).mono ?_
      rintro e w1 ⟨rfl, hw1⟩
      have HB1 := Lib.hid (HB0.out.trans (hw1.mono HB0.out.size))
      have hr := HRW.out w1 hw1
      have p0 := cell_of_row w1 _ 0 _ _ _ hr
      have p1 := cell_of_row w1 _ 1 _ _ _ hr
      have p2 := cell_of_row w1 _ 2 _ _ _ hr
      have p3 := cell_of_row w1 _ 3 _ _ _ hr
      clear hw1 hr
      go_wp2_with (fail)
      refine (HEA.out _ HB1.out).mono ?_
      rintro e w2 ⟨rfl, hw2⟩
      have HB2 := Lib.hid (HB1.out.trans (hw2.mono HB1.out.size))
      clear p0 p1 p2 p3 hw2
      go_wp2_with (fail)
      obtain ⟨cap, C, mm, hconv, hcap, hCs, rfl, hC⟩ := conv_bytes (P := Tryd.prog) w2 9 30 5 Tryd.underlying9 Tryd.underlying30 Tryd.underlying5 r
      have hcell : (w2.alloc (.cells C 5 (cap, cap + 1))).cell? ⟨w2.heap.size, k, none⟩ = some (.int .u8 (cc.toNat : Int)) := by
        rw [cell_of_row _ _ _ C 5 (cap, cap + 1) (heap_alloc_new w2 _), hC k hk, HC.out]
      have hfz := frozen_laid w2 C 5 cap k (by omega)
      have hC2 := Lib.hid hC
      clear hC
      rw [hconv]
      clear hconv
      go_wp2_with (fail)
      have HBS := Lib.hid (((HB2.out.alloc HB2.out.size (.cells C 5 (cap, cap + 1))).setCell (p := ⟨w2.heap.size, k, none⟩) HB2.out.size (.int .u8 (x : Int))).drew)
      rw [conv_back (P := Tryd.prog) ((w2.alloc (.cells C 5 (cap, cap + 1))).setCell ⟨w2.heap.size, k, none⟩ (.int .u8 (x : Int))).drew 30 9 5 Tryd.underlying30 Tryd.underlying5 Tryd.underlying9 t w2.heap.size r.length cap HTL.out.symm _ _ (heap_laid_set w2 C 5 (cap, cap + 1) k _) ?hcells]
      case hcells =>
        intro j hj
        have hC := hC2.out
        have hset := HSET.out
        subst hset
        by_cases hjk : j = k
        · subst hjk
          rw [Array.getElem?_setIfInBounds_self_of_lt (by omega)]
          simp [Nat.mod_eq_of_lt hx]
        · rw [Array.getElem?_setIfInBounds_ne (Ne.symm hjk), List.getElem_set_ne (Ne.symm hjk)]
          exact hC j (by simpa using hj)
      clear hcell hfz
      generalize ((w2.alloc (.cells C 5 (cap, cap + 1))).setCell ⟨w2.heap.size, k, none⟩ (.int .u8 (x : Int))).drew = w3 at *
      go_wp2_with (fail)
      refine (HDC.out _ HBS.out).mono ?_
      rintro e w4 ⟨A5, c5, B5, d5, rfl, hat, hb4⟩
      have HB4 := Lib.hid (HBS.out.trans (hb4.mono HBS.out.size))
      obtain ⟨w5, hw5⟩ : ∃ w5, w4.alloc (.cells (arV zeroA A5 c5 B5 d5).toArray 25) = w5 := ⟨_, rfl⟩
      have HW5 := Lib.hid hw5
      have hb5 := (show Below w4.heap.size w4 w5 by rw [← hw5]; exact (Below.refl _ _).alloc (Nat.le_refl _) _)
      have HB5 := Lib.hid (HB4.out.trans (hb5.mono HB4.out.size))
      have hr5 := (show w5.heap[w4.heap.size]? = some (.cells (arV zeroA A5 c5 B5 d5).toArray 25 (0, 0)) by rw [← hw5]; exact heap_alloc_new _ _)
      have HSM := Lib.hid (rarch_any zeroA zeroA A5 c5 B5 d5 none 0 none 0 w5 (hat.below hb5) (zero_at _))
      have HTR : Hid (((zeroA.pair == zeroA.pair) && (zeroA.serial == zeroA.serial) && (zeroA.tree == zeroA.tree) && (zeroA.stamps == zeroA.stamps)) = true) := Lib.hid rfl
      rw [HTR.out] at HSM
      unfold arV zeroA at HW5 HSM hr5
      simp only [List.length_nil] at HW5 HSM hr5
      have p0 := cell_of_row w5 _ 0 _ _ _ hr5
      have p1 := cell_of_row w5 _ 1 _ _ _ hr5
      have p2 := cell_of_row w5 _ 2 _ _ _ hr5
      have p3 := cell_of_row w5 _ 3 _ _ _ hr5
      clear hw5 hb5 hr5 hat hb4
      unfold arV zeroA
      simp only [List.length_nil]
      go_upto_region 9 with (fail)
      rw [HW5.out]
      go_wp2_with (fail)
      refine HSM.out.mono ?_
      rintro e w6 ⟨rfl, hw6⟩
      go_wp2_with (fail)
      go_ret
      exact ⟨rfl, HB5.out.trans (hw6.mono HB5.out.size)⟩

open Go.ChangeShapes Go.WideShapes Go.ChangeAt in
set_option maxRecDepth 100000 in
/-- What the walk gives, for every argument. -/
theorem ArchTurned_contract (H : Type) (enc : TypeId × Value → H) (W : World) (base : Nat) (args : Array Value) (ds gs : List (DataW H)) (before : List MemPlace)
    (hval : ∀ (j : Nat) t v, Tryd.f3.params[j]? = some t → args[j]? = some v → Value.okWide Tryd.prog W .any base t v)
    (hW : DataW.Whole enc Tryd.prog Tryd.f3.params.toList Rows.archTurnedSpec.vars false W args.toList ds gs before) (hL : laidMetH Tryd.prog Rows.archTurnedRow.laid W) (hS : W.ShapedOpen Tryd.prog) :
    Calls Tryd.prog 3 args W fun e W' => ∃ v, e = .returned v ∧ Rows.archTurnedSpec.post enc Tryd.prog Tryd.f3 false true false false W args v W' := by
  have hW' := hW
  obtain ⟨p, q, hA0, hV, rfl, hfz, hnd⟩ := hW
  have hA : DataW.TrodAll enc Tryd.prog W 0 (fun _ => true) true Tryd.f3.params.toList args.toList ds p := hA0
  rw [Tryd.params3] at hA hval
  obtain ⟨v0, vs0, d0, ds0, p0, q0, hargs, rfl, rfl, h0, r0⟩ := trodAll_cons hA
  obtain ⟨v1, vs1, d1, ds1, p1, q1, rfl, rfl, rfl, h1, r1⟩ := trodAll_cons r0
  obtain ⟨v2, vs2, d2, ds2, p2, q2, rfl, rfl, rfl, h2, r2⟩ := trodAll_cons r1
  obtain ⟨rfl, rfl, rfl⟩ := trodAll_nil r2
  obtain rfl : args = #[v0, v1, v2] := by cases args; simp_all
  obtain ⟨rfl, rfl⟩ := trodVars_none hV
  obtain ⟨x0, A0, c0, B0, e0, rfl, ka0, ks0, kw0⟩ := open_arc (hval 0 25 v0 rfl rfl) h0
  obtain ⟨x1, rfl, rfl, rfl, k1⟩ := open_int Tryd.underlying3 (hval 1 3 v1 rfl rfl) h1
  have k1 := bounds_i64 k1
  obtain ⟨x2, rfl, rfl, rfl, k2⟩ := open_int Tryd.underlying5 (hval 2 5 v2 rfl rfl) h2
  have k2 := bounds_u8 k2
  clear hA0
  obtain ⟨m, hm⟩ := laid_of hL hS
  refine (ArchTurned_any x0 A0 c0 B0 e0 x1 x2 m W hm ka0 ks0 ⟨k2.1, by omega⟩).mono ?_
  exact fun e W' ⟨he, hb⟩ => ⟨_, he, law_post rfl hW' rfl (by kernel_rfl) Tryd.underlying4 (by kernel_rfl) laidOut hb⟩

open Go.ChangeShapes Go.WideShapes Go.ChangeAt in
theorem ArchTurned_met (os : Os) : laidMet Tryd.prog Rows.archTurnedRow.laid ((laidWorld os).forCall (fun _ _ => 0) ⟨#[], #[.agg #[.string ⟨#[]⟩, .int .i64 0, .slice none 0 0, .slice none 0 0], .int .i64 0, .int .u8 0], []⟩).memory :=
  laidMet_of_run' 8 (by kernel_rfl) (by kernel_rfl)
open Go.ChangeShapes Go.WideShapes Go.ChangeAt in
theorem ArchTurned_reads (os : Os) {H : Type} (enc : TypeId × Value → H) : ∃ places, DataW.whole enc Tryd.prog ((laidWorld os).forCall (fun _ _ => 0) ⟨#[], #[.agg #[.string ⟨#[]⟩, .int .i64 0, .slice none 0 0, .slice none 0 0], .int .i64 0, .int .u8 0], []⟩).memory Tryd.f3.params.toList Rows.archTurnedSpec.vars false #[.agg #[.string ⟨#[]⟩, .int .i64 0, .slice none 0 0, .slice none 0 0], .int .i64 0, .int .u8 0].toList 8 = some ([.agg [.lit (.string []), .lit (.int .i64 0), .nil, .nil], .lit (.int .i64 0), .lit (.int .u8 0)], [], places) :=
  ⟨[], by kernel_rfl⟩

open Go.ChangeShapes Go.WideShapes Go.ChangeAt in
set_option maxRecDepth 100000 in
theorem ArchTurned_lifted (os : Os) (started : os.Started) (H : Type) (enc : TypeId × Value → H) (F : Stop.Interp) :
    ReturnsInHanded {} Tryd.checked os 3 .any ((OpenSpec.ofChange Rows.archTurnedSpec).preRow enc Tryd.prog Tryd.f3 Rows.archTurnedRow.domain false Rows.archTurnedRow.laid) (((OpenSpec.ofChange Rows.archTurnedSpec).at F).post enc Tryd.prog Tryd.f3 false true false false) := by
  obtain ⟨places, hx⟩ := ArchTurned_reads os enc
  refine returnsInHanded_of_row (C := Tryd.checked) (s := OpenSpec.ofChange Rows.archTurnedSpec) own started (by kernel_rfl) Tryd.func3
    (witness_row_at (enc := enc) (C := Tryd.checked) false (laidWorld os) #[.agg #[.string ⟨#[]⟩, .int .i64 0, .slice none 0 0, .slice none 0 0], .int .i64 0, .int .u8 0] rfl (by kernel_rfl) (by kernel_rfl) (by kernel_rfl)
      (OpenSpec.preRow_of_cond 8 hx (by kernel_rfl) (fun k hk => by cases hk) (by kernel_rfl) (ArchTurned_met os))) ?_
  intro W base args ds gs before hval hW _ hcond _ hL hS _
  exact ArchTurned_contract H enc W base args ds gs before hval hW hL hS

theorem ArchTurned_said : Rows.ArchTurnedSaid :=
  OpenClaim.holds_of_cond 3 Tryd.f3 rfl rfl rfl rfl rfl rfl rfl ⟨rfl, rfl, rfl, rfl, rfl⟩ rfl rfl rfl rfl rfl (by kernel_rfl) Tryd.func3 (by kernel_rfl)
    (of_decide_eq_true (by kernel_rfl)) (by unfold Func.isWrapper; first | (rw [if_pos (by decide +kernel)]; kernel_rfl) | (rw [if_neg (by decide +kernel)]; exact ⟨rfl, rfl⟩))
    (fun os started H enc _ F => by rw [OpenClaim.pre_eq_preRow]; exact ArchTurned_lifted os started H enc F)

theorem ArchTurned_holds : Rows.ArchTurnedCardSaid :=
  Claim7.holds_tied_plain_at .later [] _ _ _ _ ArchTurned_said (fun _ h => by cases h) (by kernel_rfl) (fun _ h => by cases h) archTurned_row_tie rfl ⟨rfl, rfl⟩ (by kernel_rfl) rfl
    (card_plain (f0 := 3) (fn0 := Tryd.f3) (by kernel_rfl) Tryd.func3 (by kernel_rfl) (by kernel_rfl)) (by kernel_rfl)
end Go.Proofs.YtjajoiahgfafgaaDoor
end
