/- Texts joined: Arch6, AppendSlice, Sha2, WriteByte, HashHex. -/
import Derived.Test.YtjajoiahgfafgaaGreatDoorBArchBares10
import Derived.Test.YtjajoiahgfafgaaGreatDoorBArchBares11
import Derived.Test.YtjajoiahgfafgaaGreatDoorBArchBares3
import Derived.Deep.Upon
import Derived.Test.YtjajoiahgfafgaaGreatDoorBArchBares1
import Derived.Test.YtjajoiahgfafgaaGreatDoorShelf
import Derived.Test.YtjajoiahgfafgaaGreatDoorBArchBares2
import Derived.Deep.RegionHeld3
import Derived.StillTailTactics
import Derived.Test.YtjajoiahgfafgaaGreatDoorBArchBares6
import Derived.Test.YtjajoiahgfafgaaGreatDoorBCodeBaseC1
import Derived.Test.YtjajoiahgfafgaaGreatDoorBArchBares8
import Derived.Deep.RegionLaw
set_option linter.unusedSimpArgs false
set_option linter.unusedVariables false

/- arch: the laws' awake; the document's Same. -/
section
set_option linter.unusedVariables false
namespace Go.Proofs.YtjajoiahgfafgaaGreatDoor
open Go.RowKit Plain

namespace Plain
def eqSAt (a b : List Stp) (i : Nat) : Bool := a.getD i default == b.getD i default
theorem eqS_rest {a b : List Stp} (h : a.length = b.length) : restOK (eqSAt a b) 0 a.length = (a == b) := by
  rw [restOK_all, Bool.eq_iff_iff, List.all_eq_true, beq_iff_eq]
  constructor
  · intro q
    refine List.ext_getElem h fun i h1 h2 => ?_
    have := q i (List.mem_range.2 h1)
    unfold eqSAt at this
    simpa [List.getD, h1, h2] using this
  · rintro rfl i hi
    unfold eqSAt; simp
theorem stp_ne {x y : Stp} : (x == y) = ((x.ino == y.ino) && (x.size == y.size) && (x.time == y.time)) := by
  obtain ⟨p, k, m⟩ := x
  obtain ⟨p', k', m'⟩ := y
  rw [Bool.eq_iff_iff]
  simp only [beq_iff_eq, Bool.and_eq_true, Stp.mk.injEq, and_assoc]
end Plain
theorem fields_stamp : (Tryz.prog.fieldsOf 55).toList.map (fun f => (f.name == "_", f.type, f.offset)) = [(false, 3, 0), (false, 3, 1), (false, 3, 2)] := by kernel_rfl
theorem stp_eq (W : World) (x y : Stp) : (Op.equalIn 10000 55 (.agg (stV x).toArray) (.agg (stV y).toArray)).run Tryz.prog W = .ok (((x.ino == y.ino) && ((x.size == y.size) && ((x.time == y.time) && true)))) W := by
  obtain ⟨p, k, m⟩ := x
  obtain ⟨p', k', m'⟩ := y
  rw [run_equalIn_agg (d := 9999) _ _ _ _ (by kernel_rfl) (by kernel_rfl)]
  have hf := fields_stamp
  revert hf
  generalize (Tryz.prog.fieldsOf 55).toList = fs
  intro hf
  obtain ⟨f0, f1, f2, rfl⟩ : ∃ f0 f1 f2, fs = [f0, f1, f2] := by
    have hl : fs.length = 3 := by simpa using congrArg List.length hf
    clear hf
    match fs, hl with
    | [f0, f1, f2], _ => exact ⟨f0, f1, f2, rfl⟩
  simp only [List.map_cons, List.map_nil, List.cons.injEq, Prod.mk.injEq, and_true] at hf
  obtain ⟨⟨n0, t0, o0⟩, ⟨n1, t1, o1⟩, ⟨n2, t2, o2⟩⟩ := hf
  have hI := fun {xs : Array Value} {off : Nat} {v : Value} (hx : xs[off]? = some v) => part_cell (W := W) (ty := 3) Tryz.underlying3 rfl hx
  refine eqFields_step n0 (a := .int .i64 p) (b := .int .i64 p') (by rw [t0, o0]; exact hI rfl) (by rw [t0, o0]; exact hI rfl) (by rw [t0, run_equalIn_int (d := 9998) _ _ _ _ _ _ Tryz.underlying3]) ?_
  refine eqFields_step n1 (a := .int .i64 k) (b := .int .i64 k') (by rw [t1, o1]; exact hI rfl) (by rw [t1, o1]; exact hI rfl) (by rw [t1, run_equalIn_int (d := 9998) _ _ _ _ _ _ Tryz.underlying3]) ?_
  exact eqFields_step n2 (a := .int .i64 m) (b := .int .i64 m') (by rw [t2, o2]; exact hI rfl) (by rw [t2, o2]; exact hI rfl) (by rw [t2, run_equalIn_int (d := 9998) _ _ _ _ _ _ Tryz.underlying3]) rfl
theorem stp_neq (W : World) (x y : Stp) : (binOp .neq 55 (.agg (stV x).toArray) (.agg (stV y).toArray)).run Tryz.prog W = .ok (.bool (!(x == y))) W := by
  rw [run_neq_struct, stp_eq, Result.andThen_ok, stp_ne]
  simp only [Bool.and_true, Bool.and_assoc]

set_option maxHeartbeats 4000000 in
set_option maxRecDepth 100000 in
theorem rsame_any (a b : List Nd) (A B : Option Addr) (c d : Nat) (w : World) (ha : IsRows w 4 A (a.map ndV)) (hb : IsRows w 4 B (b.map ndV)) (hla : a.length ≤ 9223372036854775807) (hlb : b.length ≤ 9223372036854775807) :
    Calls Tryz.prog 19 #[.slice A a.length c, .slice B b.length d] w (Ret w (.bool (a == b))) := by
  by_cases hl : a.length = b.length
  · have HRES := Lib.hid (eq_rest hl)
    have HA := Lib.hid (fun W (h : Below w.heap.size w W) => ha.below h)
    have HB := Lib.hid (fun W (h : Below w.heap.size w W) => hb.below h)
    generalize (a == b) = res at *
    have HL := Lib.hid hl
    rw [← hl]
    clear ha hb hl
    go_enter Tryz.func19, Tryz.ntmps19
    go_wp2_with (fail)
    go_loopw [5] (fun t5 W => ∃ (i : Nat), i ≤ a.length ∧ t5 = .int .i64 i ∧ Hid (restOK (eqAt a b) i a.length = res) ∧ Hid (Below w.heap.size w W)) (fun t5 _ => a.length - (intOf t5).toNat)
    case atStart => exact ⟨0, by omega, rfl, HRES, Lib.hid (Below.refl _ _)⟩
    case round =>
      clear HRES
      obtain ⟨i, hi, rfl, HE, HW⟩ := hrel
      have i0 : (0 : Int) ≤ i := by omega
      by_cases hlt : i < a.length
      · have i1 : (i : Int) < a.length := by omega
        have e1 : IntKind.i64.wrap ((i : Int) + 1) = (i : Int) + 1 := IntWalk.i64_in _ (by omega)
        obtain ⟨ad, rfl, c0, c1, c2, c3⟩ := node_cells (HA.out _ HW.out) hlt
        obtain ⟨bd, rfl, d0, d1, d2, d3⟩ := node_cells (HB.out _ HW.out) (i := i) (by rw [← HL.out]; exact hlt)
        have hat := restOK_at (f := eqAt a b) hlt
        rw [HE.out] at hat
        rw [show eqAt a b i = (a.getD i default == b.getD i default) from rfl] at hat
        generalize a.getD i default = x at *
        generalize b.getD i default = y at *
        obtain ⟨p, k, dd, m⟩ := x
        obtain ⟨p', k', dd', m'⟩ := y
        simp only at c0 c1 c2 c3 d0 d1 d2 d3
        have HAT := Lib.hid hat
        clear hat
        cases hxy : (({ path := p, kind := k, data := dd, mode := m } : Nd) == { path := p', kind := k', data := dd', mode := m' }) with
        | false =>
          have HNE := fun W => node_neq W ⟨p, k, dd, m⟩ ⟨p', k', dd', m'⟩
          rw [hxy] at HNE
          unfold ndV at HNE
          simp only [Bool.not_false] at HNE
          have HRF := Lib.hid (show res = false by rw [HAT.out, hxy]; rfl)
          clear hxy
          go_wp2_with (fail)
          go_quiet (fail)
          go_wp2_with (fail)
          go_ret
          exact ⟨by rw [HRF.out]; first | rfl | simp, below_drewN HW.out _⟩
        | true =>
          have HNE := fun W => node_neq W ⟨p, k, dd, m⟩ ⟨p', k', dd', m'⟩
          rw [hxy] at HNE
          unfold ndV at HNE
          simp only [Bool.not_true] at HNE
          have HRF := Lib.hid (show restOK (eqAt a b) (i + 1) a.length = res by rw [HAT.out, hxy, Bool.true_and])
          clear hxy
          go_wp2_with (fail)
          go_quiet (fail)
          go_wp2_with (fail)
          go_roundw
          case rel => exact ⟨i + 1, by omega, by go_num, HRF, Lib.hid (below_drewN HW.out _)⟩
          case measure => simp [intOf]; omega
      · obtain rfl : i = a.length := by omega
        have i1 : decide ((a.length : Int) < (a.length : Int)) = false := by rw [decide_eq_false_iff_not]; omega
        have HE2 := Lib.hid (show res = true by rw [← HE.out, restOK_end])
        go_wp2_with (fail)
        go_ret
        exact ⟨by rw [HE2.out]; first | rfl | simp, HW.out⟩
  · have h1 : ((a.length : Int) == (b.length : Int)) = false := by
      rw [beq_eq_false_iff_ne]; omega
    have HRES := Lib.hid (show (a == b) = false by rw [beq_eq_false_iff_ne]; intro e; exact hl (by rw [e]))
    rw [HRES.out]
    clear hl
    go_enter Tryz.func19, Tryz.ntmps19
    go_wp2_with (fail)
    go_ret
    exact ⟨rfl, Below.refl _ _⟩

set_option maxHeartbeats 4000000 in
set_option maxRecDepth 100000 in
theorem rstamps_any (a b : List Stp) (A B : Option Addr) (c d : Nat) (w : World) (ha : IsRows w 3 A (a.map stV)) (hb : IsRows w 3 B (b.map stV)) (hla : a.length ≤ 9223372036854775807) (hlb : b.length ≤ 9223372036854775807) :
    Calls Tryz.prog 34 #[.slice A a.length c, .slice B b.length d] w (Ret w (.bool (a == b))) := by
  by_cases hl : a.length = b.length
  · have HRES := Lib.hid (eqS_rest hl)
    have HA := Lib.hid (fun W (h : Below w.heap.size w W) => ha.below h)
    have HB := Lib.hid (fun W (h : Below w.heap.size w W) => hb.below h)
    generalize (a == b) = res at *
    have HL := Lib.hid hl
    rw [← hl]
    clear ha hb hl
    go_enter Tryz.func34, Tryz.ntmps34
    go_wp2_with (fail)
    go_loopw [5] (fun t5 W => ∃ (i : Nat), i ≤ a.length ∧ t5 = .int .i64 i ∧ Hid (restOK (eqSAt a b) i a.length = res) ∧ Hid (Below w.heap.size w W)) (fun t5 _ => a.length - (intOf t5).toNat)
    case atStart => exact ⟨0, by omega, rfl, HRES, Lib.hid (Below.refl _ _)⟩
    case round =>
      clear HRES
      obtain ⟨i, hi, rfl, HE, HW⟩ := hrel
      have i0 : (0 : Int) ≤ i := by omega
      by_cases hlt : i < a.length
      · have i1 : (i : Int) < a.length := by omega
        have e1 : IntKind.i64.wrap ((i : Int) + 1) = (i : Int) + 1 := IntWalk.i64_in _ (by omega)
        obtain ⟨ad, rfl, c0, c1, c2⟩ := stp_cells (HA.out _ HW.out) hlt
        obtain ⟨bd, rfl, d0, d1, d2⟩ := stp_cells (HB.out _ HW.out) (i := i) (by rw [← HL.out]; exact hlt)
        have hat := restOK_at (f := eqSAt a b) hlt
        rw [HE.out] at hat
        rw [show eqSAt a b i = (a.getD i default == b.getD i default) from rfl] at hat
        generalize a.getD i default = x at *
        generalize b.getD i default = y at *
        obtain ⟨p, k, m⟩ := x
        obtain ⟨p', k', m'⟩ := y
        simp only at c0 c1 c2 d0 d1 d2
        have HAT := Lib.hid hat
        clear hat
        cases hxy : (({ ino := p, size := k, time := m } : Stp) == { ino := p', size := k', time := m' }) with
        | false =>
          have HNE := fun W => stp_neq W ⟨p, k, m⟩ ⟨p', k', m'⟩
          rw [hxy] at HNE
          unfold stV at HNE
          simp only [Bool.not_false] at HNE
          have HRF := Lib.hid (show res = false by rw [HAT.out, hxy]; rfl)
          clear hxy
          go_wp2_with (fail)
          go_quiet (fail)
          go_wp2_with (fail)
          go_ret
          exact ⟨by rw [HRF.out]; first | rfl | simp, below_drewN HW.out _⟩
        | true =>
          have HNE := fun W => stp_neq W ⟨p, k, m⟩ ⟨p', k', m'⟩
          rw [hxy] at HNE
          unfold stV at HNE
          simp only [Bool.not_true] at HNE
          have HRF := Lib.hid (show restOK (eqSAt a b) (i + 1) a.length = res by rw [HAT.out, hxy, Bool.true_and])
          clear hxy
          go_wp2_with (fail)
          go_quiet (fail)
          go_wp2_with (fail)
          go_roundw
          case rel => exact ⟨i + 1, by omega, by go_num, HRF, Lib.hid (below_drewN HW.out _)⟩
          case measure => simp [intOf]; omega
      · obtain rfl : i = a.length := by omega
        have i1 : decide ((a.length : Int) < (a.length : Int)) = false := by rw [decide_eq_false_iff_not]; omega
        have HE2 := Lib.hid (show res = true by rw [← HE.out, restOK_end])
        go_wp2_with (fail)
        go_ret
        exact ⟨by rw [HE2.out]; first | rfl | simp, HW.out⟩
  · have h1 : ((a.length : Int) == (b.length : Int)) = false := by
      rw [beq_eq_false_iff_ne]; omega
    have HRES := Lib.hid (show (a == b) = false by rw [beq_eq_false_iff_ne]; intro e; exact hl (by rw [e]))
    rw [HRES.out]
    clear hl
    go_enter Tryz.func34, Tryz.ntmps34
    go_wp2_with (fail)
    go_ret
    exact ⟨rfl, Below.refl _ _⟩


namespace Plain
def awA : Arc := ⟨[112], 3, [], []⟩
theorem awA_ok : checkA awA = true := by decide
theorem awA_small : Small awA := ⟨by decide, fun s hs => by cases hs⟩
theorem awA_enc : encodeA awA = (record (payA awA), 0) := by unfold encodeA; rw [awA_ok]; rfl
theorem awA_dec : decodeA (record (payA awA)) = (awA, 0) := decode_back awA_ok awA_small
end Plain
theorem nil_rows (w : World) (n : Nat) : IsRows w n none [] := fun k hk => absurd hk (by simp)

set_option maxHeartbeats 2000000 in
set_option maxRecDepth 100000 in
theorem aawake_any (m : Int) (w : World) (hL : Laid w m) : Calls Tryz.prog 7 #[] w (Ret w (.bool true)) := by
  have HE := Lib.hid (encode_any awA none 0 none 0 m w hL ⟨nil_rows _ _, nil_rows _ _, Nat.le_refl _, Nat.le_refl _, Nat.zero_le _, Nat.zero_le _, fun n hn => (by cases hn), by decide⟩ awA_small)
  have HD := Lib.hid (fun W (h : Below w.heap.size w W) => decode_any (record (payA awA)) m W (hL.below h) (by rw [record_length]; have := payA_length awA_ok; omega))
  rw [awA_enc] at HE
  rw [awA_dec] at HD
  simp only at HE
  generalize record (payA awA) = s at *
  clear hL
  go_enter Tryz.func7, Tryz.ntmps7
  go_wp2_with (fail)
  refine HE.out.mono ?_
  rintro e w1 ⟨rfl, hw1⟩
  have HB1 := Lib.hid hw1
  clear hw1
  go_wp2_with (fail)
  refine (HD.out _ HB1.out).mono ?_
  rintro e w2 ⟨A, c, B, d, rfl, -, hw2⟩
  have HB2 := Lib.hid (HB1.out.trans (hw2.mono HB1.out.size))
  clear hw2
  unfold arV awA
  go_wp2_with (fail)
  go_ret
  exact ⟨rfl, HB2.out.alloc HB2.out.size _⟩


set_option maxHeartbeats 2000000 in
set_option maxRecDepth 100000 in
theorem rarch_any (a b : Arc) (A : Option Addr) (c : Nat) (B : Option Addr) (d : Nat) (A' : Option Addr) (c' : Nat) (B' : Option Addr) (d' : Nat) (w : World) (hA : ArAt a A c B d w) (hB : ArAt b A' c' B' d' w) :
    Calls Tryz.prog 10 #[.agg (arV a A c B d).toArray, .agg (arV b A' c' B' d').toArray] w (Ret w (.bool ((a.pair == b.pair) && (a.serial == b.serial) && (a.tree == b.tree) && (a.stamps == b.stamps)))) := by
  have HSM := Lib.hid (fun W (h : Below w.heap.size w W) => rsame_any a.tree b.tree A A' c c' W (hA.rows.below h) (hB.rows.below h) hA.lenN hB.lenN)
  have HST := Lib.hid (fun W (h : Below w.heap.size w W) => rstamps_any a.stamps b.stamps B B' d d' W (hA.stps.below h) (hB.stps.below h) hA.lenS hB.lenS)
  obtain ⟨w0, hw0⟩ : ∃ w0, (w.alloc (.cells (arV a A c B d).toArray 26)).alloc (.cells (arV b A' c' B' d').toArray 26) = w0 := ⟨_, rfl⟩
  have HB0 := Lib.hid (show Below w.heap.size w w0 by rw [← hw0]; exact ((Below.refl w.heap.size w).alloc (Nat.le_refl _) _).alloc (by simp) _)
  have HS0 := Lib.hid (show w0.heap.size = w.heap.size + 2 by rw [← hw0]; simp)
  have HRA := Lib.hid (show w0.heap[w.heap.size]? = some (.cells (arV a A c B d).toArray 26 (0, 0)) by rw [← hw0, Below.heap_alloc _ _ _ (by simp)]; exact heap_alloc_new _ _)
  have HRB := Lib.hid (show w0.heap[w.heap.size + 1]? = some (.cells (arV b A' c' B' d').toArray 26 (0, 0)) by have := heap_alloc_new (w.alloc (.cells (arV a A c B d).toArray 26)) (.cells (arV b A' c' B' d').toArray 26); rw [← hw0]; simpa using this)
  have HW0 := Lib.hid hw0
  clear hA hB hw0
  obtain ⟨pair, serial, tree, stamps⟩ := a
  obtain ⟨pair', serial', tree', stamps'⟩ := b
  unfold arV at *
  simp only at HSM HST HRA HRB HW0 ⊢
  generalize (tree == tree') = bt at *
  generalize (stamps == stamps') = bs at *
  cases hpp : (pair == pair') with
  | false =>
    simp only [Bool.false_and]
    go_enter Tryz.func10, Tryz.ntmps10
    go_upto_region 1 with (fail)
    rw [HW0.out]
    have ta0 := cell_of_row w0 _ 0 _ _ _ HRA.out; have tb0 := cell_of_row w0 _ 0 _ _ _ HRB.out; have ta1 := cell_of_row w0 _ 1 _ _ _ HRA.out; have tb1 := cell_of_row w0 _ 1 _ _ _ HRB.out; have ta2 := cell_of_row w0 _ 2 _ _ _ HRA.out; have tb2 := cell_of_row w0 _ 2 _ _ _ HRB.out; have ta3 := cell_of_row w0 _ 3 _ _ _ HRA.out; have tb3 := cell_of_row w0 _ 3 _ _ _ HRB.out
    go_wp2_with (fail)
    go_ret
    exact ⟨rfl, HB0.out⟩
  | true =>
  cases hss : (serial == serial') with
  | false =>
    simp only [Bool.false_and, Bool.and_false]
    go_enter Tryz.func10, Tryz.ntmps10
    go_upto_region 1 with (fail)
    rw [HW0.out]
    have ta0 := cell_of_row w0 _ 0 _ _ _ HRA.out; have tb0 := cell_of_row w0 _ 0 _ _ _ HRB.out; have ta1 := cell_of_row w0 _ 1 _ _ _ HRA.out; have tb1 := cell_of_row w0 _ 1 _ _ _ HRB.out; have ta2 := cell_of_row w0 _ 2 _ _ _ HRA.out; have tb2 := cell_of_row w0 _ 2 _ _ _ HRB.out; have ta3 := cell_of_row w0 _ 3 _ _ _ HRA.out; have tb3 := cell_of_row w0 _ 3 _ _ _ HRB.out
    go_wp2_with (fail)
    go_ret
    exact ⟨rfl, HB0.out⟩
  | true =>
  simp only [Bool.true_and]
  cases bt with
  | false =>
    simp only [Bool.false_and]
    go_enter Tryz.func10, Tryz.ntmps10
    go_upto_region 1 with (fail)
    rw [HW0.out]
    have ta0 := cell_of_row w0 _ 0 _ _ _ HRA.out; have tb0 := cell_of_row w0 _ 0 _ _ _ HRB.out; have ta1 := cell_of_row w0 _ 1 _ _ _ HRA.out; have tb1 := cell_of_row w0 _ 1 _ _ _ HRB.out; have ta2 := cell_of_row w0 _ 2 _ _ _ HRA.out; have tb2 := cell_of_row w0 _ 2 _ _ _ HRB.out; have ta3 := cell_of_row w0 _ 3 _ _ _ HRA.out; have tb3 := cell_of_row w0 _ 3 _ _ _ HRB.out
    go_wp2_with (fail)
    refine (HSM.out _ HB0.out).mono ?_
    rintro e w1 ⟨rfl, hw1⟩
    go_wp2_with (fail)
    go_ret
    exact ⟨rfl, HB0.out.trans (hw1.mono HB0.out.size)⟩
  | true =>
    simp only [Bool.true_and]
    go_enter Tryz.func10, Tryz.ntmps10
    go_upto_region 1 with (fail)
    rw [HW0.out]
    have ta0 := cell_of_row w0 _ 0 _ _ _ HRA.out; have tb0 := cell_of_row w0 _ 0 _ _ _ HRB.out; have ta1 := cell_of_row w0 _ 1 _ _ _ HRA.out; have tb1 := cell_of_row w0 _ 1 _ _ _ HRB.out; have ta2 := cell_of_row w0 _ 2 _ _ _ HRA.out; have tb2 := cell_of_row w0 _ 2 _ _ _ HRB.out; have ta3 := cell_of_row w0 _ 3 _ _ _ HRA.out; have tb3 := cell_of_row w0 _ 3 _ _ _ HRB.out
    go_wp2_with (fail)
    refine (HSM.out _ HB0.out).mono ?_
    rintro e w1 ⟨rfl, hw1⟩
    have HB1 := Lib.hid (HB0.out.trans (hw1.mono HB0.out.size))
    have r3 := cell_of_row w1 _ 3 _ _ _ ((hw1.block _ (lt_of_heap HRA.out)).trans HRA.out)
    have s3 := cell_of_row w1 _ 3 _ _ _ ((hw1.block _ (lt_of_heap HRB.out)).trans HRB.out)
    clear hw1 ta0 ta1 ta2 ta3 tb0 tb1 tb2 tb3
    go_wp2_with (fail)
    refine (HST.out _ HB1.out).mono ?_
    rintro e w2 ⟨rfl, hw2⟩
    go_wp2_with (fail)
    go_ret
    exact ⟨rfl, HB1.out.trans (hw2.mono HB1.out.size)⟩
end Go.Proofs.YtjajoiahgfafgaaGreatDoor
end

/- append(s, x...): a slice (it may be nil) behind a row of the call's own. -/
section
namespace Go.Proofs.YtjajoiahgfafgaaGreatDoor
open Go.RowKit

theorem wpList_append_slice {P : Program} {w : World} {ops : Array Oper} {rest : List Oper} {o : Oper} {a : Act} {Q : Exit → Act → World → Prop} (hgd : o.guard = none) (s x : Operand) (t : TypeId)
    (ho : o.op = .call { callee := .builtin .append, args := #[s, x], argTypes := #[t, t] })
    (base : Nat) (e : TypeId) (i : TypeInfo) (z : Value) (size bytes : Nat) (ht : P.underlying t = some (.slice e)) (hi : P.info? e = some i) (hz : i.zero = some z)
    (hsize : i.size = size) (hby : i.bytes = bytes) (hzs : z.cells.size = size) (hsz : 0 < size)
    (A : Option Addr) (n cap : Nat) (xs : List Value) (hs : a.eval s = .slice A n cap) (hown : w.ownsRow base e size (.slice A n cap) n xs)
    (X : Option Addr) (m c : Nat) (news : List Value) (hx : a.eval x = .slice X m c) (hl : Reads w size X m news) (h1 : ∀ u ∈ news, u.oneCell' = true)
    (h63 : n + m ≤ maxLen) (hbytes : (n + m) * bytes ≤ 140737488355328) (hbase : base ≤ w.heap.size)
    (h : ∀ A' cap' w', w'.ownsRow base e size (.slice A' (n + m) cap') (n + m) (xs ++ news) → w.grownBy w' (Value.slice A n cap).ownBlock → wpList P ops Q rest (a.put o.dst (.slice A' (n + m) cap')) w') : wpList P ops Q (o :: rest) a w := by
  cases X with
  | none =>
    have hm : m = 0 := by
      rcases Nat.eq_zero_or_pos m with h0 | h0
      · exact h0
      · obtain ⟨ad, e, -⟩ := hl.2 h0; cases e
    subst hm
    have hn : news = [] := List.eq_nil_of_length_eq_zero (by have := hl.1; simpa using this)
    subst hn
    have hle : n ≤ cap := by
      rcases hown.2 with ⟨hv, h0⟩ | ⟨g, cp, cur, hv, _, _, hc, _⟩
      · omega
      · injection hv with h1 h2 h3; omega
    have hr := run_append_nothing w t t o.type e i ht hi A n cap hle (.slice none 0 c) (Src.ofNil w ht c)
    have h2 := h A cap w (by rw [List.append_nil]; exact hown) (gb_refl w _)
    refine wpList_plain hgd fun _ hK => ?_
    unfold Oper.wp execOp
    simp only [ho, resolve, invoke, builtin, Sem.run_bind, Sem.run_pure, Result.andThen_ok, List.map_toArray, List.map_cons, List.map_nil, hs, hx, hr]
    exact hK _ _ h2
  | some ad =>
    by_cases hm : 0 < m
    · obtain ⟨ad', e1, hc⟩ := hl.2 hm
      injection e1 with e1
      subst e1
      refine wpList_append_two hgd s x t ho base e i z size bytes ht hi hz hsize hby hzs hsz _ n xs hs hown ad m c news hx hl.1 hc h1 h63 hbytes hbase fun v' w' h2 h3 _ => ?_
      obtain ⟨A', c', rfl, -⟩ := IsSlice.of_own h2
      exact h A' c' w' h2 h3
    · have hm0 : m = 0 := by omega
      subst hm0
      have hn : news = [] := List.eq_nil_of_length_eq_zero (by have := hl.1; simpa using this)
      subst hn
      refine wpList_append_two hgd s x t ho base e i z size bytes ht hi hz hsize hby hzs hsz _ n xs hs hown ad 0 c [] hx (by simp) (fun j u hu => by simp at hu) h1 h63 hbytes hbase fun v' w' h2 h3 _ => ?_
      obtain ⟨A', c', rfl, -⟩ := IsSlice.of_own h2
      exact h A' c' w' h2 h3
end Go.Proofs.YtjajoiahgfafgaaGreatDoor
end

/- hash.Sum: the strong fingerprint of a text. -/
section
namespace Go.Proofs.YtjajoiahgfafgaaGreatDoor
open Go.RowKit Plain

/-- The worlds of hash.Sum: block B the eight words. -/
structure Sm (w wr : World) (v : S8) : Prop where
  b0 : wr.heap[w.heap.size]? = some (.cells (cells8 v) 109 (0, 0))
  below : Below w.heap.size w wr

theorem Sm.facts {w wr : World} {v : S8} (hr : Sm w wr v) :
    wr.cell? ⟨w.heap.size, 0, none⟩ = some (.int .u32 (V v.a)) ∧ wr.cell? ⟨w.heap.size, 1, none⟩ = some (.int .u32 (V v.b)) ∧
    wr.cell? ⟨w.heap.size, 2, none⟩ = some (.int .u32 (V v.c)) ∧ wr.cell? ⟨w.heap.size, 3, none⟩ = some (.int .u32 (V v.d)) ∧
    wr.cell? ⟨w.heap.size, 4, none⟩ = some (.int .u32 (V v.e)) ∧ wr.cell? ⟨w.heap.size, 5, none⟩ = some (.int .u32 (V v.f)) ∧
    wr.cell? ⟨w.heap.size, 6, none⟩ = some (.int .u32 (V v.g)) ∧ wr.cell? ⟨w.heap.size, 7, none⟩ = some (.int .u32 (V v.h)) := by
  refine ⟨?_, ?_, ?_, ?_, ?_, ?_, ?_, ?_⟩ <;> (rw [cell_of_row wr (w.heap.size) _ _ 109 (0, 0) hr.b0]; rfl)
theorem Sm.drew {w wr : World} {v : S8} (hr : Sm w wr v) : Sm w wr.drew v := ⟨hr.b0, hr.below.drew⟩
theorem Sm.keep {w wr w' : World} {v : S8} (hr : Sm w wr v) (hb : Below wr.heap.size wr w') : Sm w w' v :=
  ⟨(hb.block _ (Array.getElem?_eq_some_iff.1 hr.b0).1).trans hr.b0, hr.below.trans (hb.mono hr.below.size)⟩
theorem Sm.put {w wr w' : World} {v : S8} (hr : Sm w wr v) (hg : wr.grownBy w' (some w.heap.size)) (u : S8) (hb : w'.heap[w.heap.size]? = some (.cells (cells8 u) 109 (0, 0))) : Sm w w' u :=
  ⟨hb, below_gb hr.below hr.below.size hg (Nat.le_refl _)⟩
theorem repeat_one (c : Nat) : Lib.repeatL [0] c = List.replicate c (0 : UInt8) := by
  induction c with
  | zero => rfl
  | succ c ih => rw [List.replicate_succ, ← ih]; rfl
theorem Sm.set {w wr : World} {v : S8} (hr : Sm w wr v) {g : Nat} (hg : w.heap.size < g) (k : Nat) (x : Value) : Sm w (wr.setCell ⟨g, k, none⟩ x) v :=
  ⟨(heap_set_ne' (by omega) k x).trans hr.b0, hr.below.setCell (p := ⟨g, k, none⟩) (by show w.heap.size ≤ g; omega) x⟩
theorem conv_back' {P : Program} (w : World) (src dst e t : TypeId) (hs : P.underlying src = some (.slice e)) (he : P.underlying e = some (.int .u8)) (hd : P.underlying dst = some .string) (l : List UInt8) (b n cap : Nat) (hn : n = l.length) (C : Array Value) (m : Nat × Nat)
    (hb : w.heap[b]? = some (.cells C t m)) (hC : ∀ j (h : j < l.length), C[j]? = some (.int .u8 (l[j].toNat : Int))) :
    (convert src dst (.slice (some ⟨b, 0, none⟩) n cap)).run P w = .ok (.string ⟨l.toArray⟩) w := by
  subst hn
  exact run_convert_bytes_back w src dst e ⟨b, 0, none⟩ cap l hs he hd (fun j hj => by
    rw [show (⟨b, 0, none⟩ : Addr).add j = ⟨b, j, none⟩ by unfold Addr.add; split <;> simp_all, cell_of_row _ _ _ C t m hb]
    exact hC j hj)
theorem lt_of_heap' {w : World} {b : Nat} {o : Obj} (h : w.heap[b]? = some o) : b < w.heap.size := (Array.getElem?_eq_some_iff.1 h).1
theorem out8_get (v : S8) (i j : Nat) (hi : i < 8) (hj : j < 4) : (out8 v).getD (4 * i + j) 0 = (bytes4 (at8 v i)).getD j 0 := by
  match i, hi, j, hj with
  | 0, _, 0, _ => rfl
  | 0, _, 1, _ => rfl
  | 0, _, 2, _ => rfl
  | 0, _, 3, _ => rfl
  | 1, _, 0, _ => rfl
  | 1, _, 1, _ => rfl
  | 1, _, 2, _ => rfl
  | 1, _, 3, _ => rfl
  | 2, _, 0, _ => rfl
  | 2, _, 1, _ => rfl
  | 2, _, 2, _ => rfl
  | 2, _, 3, _ => rfl
  | 3, _, 0, _ => rfl
  | 3, _, 1, _ => rfl
  | 3, _, 2, _ => rfl
  | 3, _, 3, _ => rfl
  | 4, _, 0, _ => rfl
  | 4, _, 1, _ => rfl
  | 4, _, 2, _ => rfl
  | 4, _, 3, _ => rfl
  | 5, _, 0, _ => rfl
  | 5, _, 1, _ => rfl
  | 5, _, 2, _ => rfl
  | 5, _, 3, _ => rfl
  | 6, _, 0, _ => rfl
  | 6, _, 1, _ => rfl
  | 6, _, 2, _ => rfl
  | 6, _, 3, _ => rfl
  | 7, _, 0, _ => rfl
  | 7, _, 1, _ => rfl
  | 7, _, 2, _ => rfl
  | 7, _, 3, _ => rfl
  | i + 8, h, _, _ => omega
  | i, _, j + 4, h => omega
theorem bytes4_get (x : UInt32) (j : Nat) (hj : j < 4) : (V x / 2 ^ (24 - 8 * j)) % 256 = (((bytes4 x).getD j 0).toNat : Int) := by
  unfold V
  match j, hj with
  | 0, _ => show ((x.toNat : Int) / 2 ^ 24) % 256 = ((UInt8.ofNat (x.toNat / 16777216)).toNat : Int); rw [UInt8.toNat_ofNat']; omega
  | 1, _ => show ((x.toNat : Int) / 2 ^ 16) % 256 = ((UInt8.ofNat (x.toNat / 65536)).toNat : Int); rw [UInt8.toNat_ofNat']; omega
  | 2, _ => show ((x.toNat : Int) / 2 ^ 8) % 256 = ((UInt8.ofNat (x.toNat / 256)).toNat : Int); rw [UInt8.toNat_ofNat']; omega
  | 3, _ => show ((x.toNat : Int) / 2 ^ 0) % 256 = ((UInt8.ofNat x.toNat).toNat : Int); rw [UInt8.toNat_ofNat']; omega
  | j + 4, h => omega
theorem out_go (v : S8) (i j : Nat) (hi : i < 8) (hj : j < 4) : (V (at8 v i) / 2 ^ (24 - 8 * j)) % 256 = (((out8 v).getD (4 * i + j) 0).toNat : Int) := by
  rw [out8_get v i j hi hj, bytes4_get _ j hj]
set_option maxRecDepth 100000 in
theorem index8 (v : S8) (i : Nat) (hi : i < 8) (w : World) : (Instr.index 109 (.agg (cells8 v)) (.int .i64 i)).run Tryz.prog w = .ok (.int .u32 (V (at8 v i))) w := by
  have h : i = 0 ∨ i = 1 ∨ i = 2 ∨ i = 3 ∨ i = 4 ∨ i = 5 ∨ i = 6 ∨ i = 7 := by omega
  rcases h with rfl | rfl | rfl | rfl | rfl | rfl | rfl | rfl <;> first | rfl | (show _ = _; kernel_rfl) | simp [Instr.index, cells8, at8, go_sem]
def strLenS : Value → Nat | .string b => b.size | _ => 0

set_option maxRecDepth 100000 in
set_option maxHeartbeats 2000000 in
theorem Sum_any (s : List UInt8) (w : World) (hs : s.length ≤ 1152921504606846975) :
    Calls Tryz.prog 47 #[.string ⟨s.toArray⟩] w (Ret w (.string ⟨(sha s).toArray⟩)) := by
  go_enter Tryz.func47, Tryz.ntmps47
  go_wp2_with (fail)
  go_loopw [5] (fun t5 wr => ∃ k : Nat, 64 * k ≤ s.length ∧ t5 = .string ⟨(s.drop (64 * k)).toArray⟩ ∧ Hid (Sm w wr (runB k H0 s))) (fun t5 _ => strLenS t5)
  case atStart => exact ⟨0, by omega, rfl, Lib.hid ⟨heap_alloc_new w _, (Below.refl _ _).alloc (Nat.le_refl _) _⟩⟩
  case round =>
    obtain ⟨k, hk, rfl, HS⟩ := hrel
    have hl : (s.drop (64 * k)).length = s.length - 64 * k := by simp
    have hl0 : (s.drop (64 * k)).length ≤ s.length := by omega
    by_cases hlt : 64 ≤ s.length - 64 * k
    · have hstep : runB (k + 1) H0 s = round (runB k H0 s) ((s.drop (64 * k)).take 64) := by rw [runB_add]; rfl
      have hdrop : (s.drop (64 * k)).drop 64 = s.drop (64 * (k + 1)) := by rw [List.drop_drop]; congr 1
      have hlr : 64 ≤ (s.drop (64 * k)).length := by omega
      generalize s.drop (64 * k) = r at *
      generalize hv : runB k H0 s = v at *
      have HST := Lib.hid hstep
      have HDR := Lib.hid hdrop
      clear hstep hdrop hv hl
      obtain ⟨c0, c1, c2, c3, c4, c5, c6, c7⟩ := HS.out.facts
      have q1 : (64 : Int) ≤ r.length := by omega
      have q2 : (r.length : Int) ≤ 9223372036854775807 := by omega
      go_wp2_with (fail)
      go_still_tail 3, (by kernel_rfl)
      change wpList _ _ _ _ _ wr.drew
      have HS2 := Lib.hid HS.out.drew
      clear c0 c1 c2 c3 c4 c5 c6 c7 HS
      generalize wr.drew = w2 at HS2 ⊢
      go_wp2_with (fail)
      refine (round_any v (r.take 64) _ (by simp; omega)).mono ?_
      rintro e w3 ⟨rfl, hb3⟩
      have HS3 := Lib.hid (HS2.out.keep hb3)
      have HB3 := Lib.hid HS3.out.b0
      clear hb3 HS2
      go_wp2_with (refine wpList_store_row rfl 109 _ _ rfl w.heap.size ?c1 ?C1 109 ?hx1 ?hy1 ?hg1 ?hC1 ?hi1 ?h11 ?_)
      case c1 => exact cells8 (round v (r.take 64))
      case C1 => exact cells8 v
      case hx1 => rfl
      case hy1 => rfl
      case hg1 => exact HB3.out
      case hC1 => exact (cells8_size _).trans (cells8_size _).symm
      case hi1 => rw [cells8_size]; exact info8
      case h11 => exact Array.all_eq_true_iff_forall_mem.2 (fun x hx => by obtain ⟨i, hi, rfl⟩ := Array.mem_iff_getElem.1 hx; exact oneCell8 _ i hi)
      intro w5 hg5 hs5 hb5
      have HS5 := Lib.hid (HS3.out.put hg5 _ hb5)
      clear hg5 hs5 hb5 HB3 HS3
      go_wp2_with (fail)
      go_roundw
      case rel => exact ⟨k + 1, by omega, by rw [HDR.out], by rw [HST.out]; exact HS5⟩
      case measure => simp [strLenS, ByteArray.size]; omega
    · have hr : (s.drop (64 * k)).length = s.length % 64 := by omega
      have hK : k = s.length / 64 := by omega
      have HD := Lib.hid (List.take_append_drop (64 * k) s)
      generalize hrr : s.drop (64 * k) = r at *
      have e1 : (119 - (r.length : Int)) % 64 = ((noughts s.length : Nat) : Int) := by unfold noughts; omega
      have hn : noughts s.length < 64 := by unfold noughts; omega
      generalize hnn : noughts s.length = c at *
      have HNN := Lib.hid hnn
      have HR := Lib.hid hr
      have HK := Lib.hid hK
      have HRR := Lib.hid hrr
      have hr64 : r.length < 64 := by omega
      clear hnn hr hK hrr hl hl0
      go_wp2_with (fail)
      have hrep := Tryz.strings_Repeat ⟨#[0]⟩ c wr (by omega) (by show 1 * c ≤ _; omega)
      rw [show Lib.repeatL (⟨#[0]⟩ : ByteArray).data.toList c = List.replicate c 0 from repeat_one c] at hrep
      have hz0 : (List.replicate c (0 : UInt8)).length = c := by simp
      generalize hz : List.replicate c (0 : UInt8) = z at *
      have HZ := Lib.hid hz
      have HZ0 := Lib.hid hz0
      have hz64 : z.length < 64 := by omega
      clear hz hz0
      refine hrep.mono ?_
      rintro e w2 ⟨rfl, hb2⟩
      have HS2 := Lib.hid (HS.out.keep hb2)
      have HG0 := Lib.hid (lt_of_heap' HS2.out.b0)
      clear hrep hb2 HS
      go_wp2_with (fail)
      go_loopw [7, 35] (fun _ t35 wr => ∃ (i : Nat) (C : Array Value), i ≤ 8 ∧ t35 = .int .i64 i ∧ Hid (C.size = 8) ∧ Hid (Sm w wr (runB k H0 s)) ∧ Hid (wr.heap[w2.heap.size]? = some (.cells C 113 (0, 0))) ∧ Hid (∀ j, j < i → C[j]? = some (.int .u8 (((size8 s.length).getD j 0).toNat : Int)))) (fun _ t35 _ => 8 - (intOf t35).toNat)
      case atStart => exact ⟨0, _, by omega, rfl, Lib.hid rfl, Lib.hid (HS2.out.keep ((Below.refl _ _).alloc (Nat.le_refl _) _)), Lib.hid (heap_alloc_new w2 _), Lib.hid (fun j hj => by omega)⟩
      case round =>
        clear HS2
        obtain ⟨i, C, hi, rfl, HC, HS, HB, HA⟩ := hrel
        by_cases hlt : i < 8
        · have f0 : wr.frozen? ⟨w2.heap.size, i, none⟩ = false := frozen_of_row wr _ i C 113 HB.out
          obtain ⟨v0, a0⟩ : ∃ v0, wr.cell? ⟨w2.heap.size, i, none⟩ = some v0 := by
            have hC := HC.out
            exact ⟨C[i]'(by omega), by rw [cell_of_row wr _ i C 113 (0, 0) HB.out]; exact Array.getElem?_eq_getElem (by omega)⟩
          have hi8 : (i : Int) < 8 := by omega
          have b1 : 0 ≤ 56 - 8 * (i : Int) := by omega
          have b2 : 56 - 8 * (i : Int) < 64 := by omega
          have HG := Lib.hid (size8_go s.length i hlt)
          go_wp2_with (fail)
          refine ⟨⟨i + 1, _, by omega, by go_num, Lib.hid ?_, Lib.hid (HS.out.set HG0.out i _), Lib.hid (heap_set HB.out i _), Lib.hid (set_get (by have := HC.out; omega) ?_ HA.out)⟩, by simp [intOf]; omega⟩
          · simpa using HC.out
          · rw [HG.out]
        · have hcv := conv_back' wr 63 9 5 113 Tryz.underlying63 Tryz.underlying5 Tryz.underlying9 (size8 s.length) w2.heap.size 8 8 rfl C (0, 0) HB.out
            (fun j hj => by
              have hj8 : j < 8 := by rw [size8_length] at hj; exact hj
              rw [HA.out j (by omega), List.getD_eq_getElem?_getD, List.getElem?_eq_getElem hj]; rfl)
          have h8 := size8_length s.length
          generalize hsz : size8 s.length = z8 at *
          have HSZ := Lib.hid hsz
          have H8 := Lib.hid h8
          have h8b : z8.length ≤ 8 := by omega
          clear hsz h8 HA HB HC
          go_wp2_with (fail)
          obtain ⟨m, hq, hsha⟩ := sha_tail s
          rw [← HK.out, HRR.out, HNN.out, HZ.out, HSZ.out] at hq hsha
          have HSHA := Lib.hid hsha
          have hqb : (r ++ 128 :: (z ++ z8)).length ≤ 200 := by simp; omega
          clear hsha
          generalize r ++ 128 :: (z ++ z8) = q at *
          generalize runB k H0 s = v1 at *
          have HQ := Lib.hid hq
          have hm : 64 * m ≤ q.length := by omega
          have hm2 : q.length ≤ 64 * m := by omega
          clear hq
          go_loopw [5] (fun t5 wr => ∃ j : Nat, j ≤ m ∧ t5 = .string ⟨(q.drop (64 * j)).toArray⟩ ∧ Hid (Sm w wr (runB j v1 q))) (fun t5 _ => strLenS t5)
          case atStart => exact ⟨0, by omega, rfl, HS⟩
          case round =>
            clear HS
            obtain ⟨j, hj, rfl, HS⟩ := hrel
            have hl : (q.drop (64 * j)).length = q.length - 64 * j := by simp
            by_cases hlt : j < m
            · have hstep : runB (j + 1) v1 q = round (runB j v1 q) ((q.drop (64 * j)).take 64) := by rw [runB_add]; rfl
              have hdrop : (q.drop (64 * j)).drop 64 = q.drop (64 * (j + 1)) := by rw [List.drop_drop]; congr 1
              have hlr : 64 ≤ (q.drop (64 * j)).length := by omega
              have hl0 : (q.drop (64 * j)).length ≤ 200 := by omega
              generalize q.drop (64 * j) = r2 at *
              generalize hv : runB j v1 q = v at *
              have HST := Lib.hid hstep
              have HDR := Lib.hid hdrop
              have hne : (!r2.isEmpty) = true := by cases r2 with | nil => simp at hlr | cons => rfl
              clear hstep hdrop hv hl
              obtain ⟨c0, c1, c2, c3, c4, c5, c6, c7⟩ := HS.out.facts
              have q1 : (64 : Int) ≤ r2.length := by omega
              have q2 : (r2.length : Int) ≤ 9223372036854775807 := by omega
              go_wp2_with (fail)
              go_still_tail 3, (by kernel_rfl)
              change wpList _ _ _ _ _ wr.drew
              have HS2 := Lib.hid HS.out.drew
              clear c0 c1 c2 c3 c4 c5 c6 c7 HS
              generalize wr.drew = w3 at HS2 ⊢
              go_wp2_with (fail)
              refine (round_any v (r2.take 64) _ (by simp; omega)).mono ?_
              rintro e w4 ⟨rfl, hb4⟩
              have HS3 := Lib.hid (HS2.out.keep hb4)
              have HB3 := Lib.hid HS3.out.b0
              clear hb4 HS2
              go_wp2_with (refine wpList_store_row rfl 109 _ _ rfl w.heap.size ?d1 ?D1 109 ?dx1 ?dy1 ?dg1 ?dC1 ?di1 ?d11 ?_)
              case d1 => exact cells8 (round v (r2.take 64))
              case D1 => exact cells8 v
              case dx1 => rfl
              case dy1 => rfl
              case dg1 => exact HB3.out
              case dC1 => exact (cells8_size _).trans (cells8_size _).symm
              case di1 => rw [cells8_size]; exact info8
              case d11 => exact Array.all_eq_true_iff_forall_mem.2 (fun x hx => by obtain ⟨i, hi, rfl⟩ := Array.mem_iff_getElem.1 hx; exact oneCell8 _ i hi)
              intro w5 hg5 hs5 hb5
              have HS5 := Lib.hid (HS3.out.put hg5 _ hb5)
              clear hg5 hs5 hb5 HB3 HS3
              go_wp2_with (fail)
              go_roundw
              case rel => exact ⟨j + 1, by omega, by rw [HDR.out], by rw [HST.out]; exact HS5⟩
              case measure => simp [strLenS, ByteArray.size]; omega
            · have hjm : j = m := by omega
              have hnil : q.drop (64 * j) = [] := List.eq_nil_of_length_eq_zero (by omega)
              rw [hnil]
              have HSM : Hid (Sm w wr (runB m v1 q)) := hjm ▸ HS
              clear hl hnil hjm HS
              generalize runB m v1 q = v2 at *
              have HB0 := Lib.hid HSM.out.b0
              have hbl := HSM.out.below
              have HBL := Lib.hid (hbl.alloc hbl.size (.cells (Array.replicate 32 (.int .u8 0)) 114))
              have hb1 := heap_alloc_new wr (.cells (Array.replicate 32 (.int .u8 0)) 114)
              have hge := hbl.size
              obtain ⟨g2, hg2⟩ : ∃ g2, wr.heap.size = g2 := ⟨_, rfl⟩
              rw [hg2] at hb1 hge
              have HB1 := Lib.hid hb1
              have HGE := Lib.hid hge
              clear hbl HSM hb1 hge
              go_wp2_with (refine wpList_load_row rfl 109 _ rfl w.heap.size rfl 109 _ (0, 0) _ (heap_old' HB0.out) Tryz.underlying109 rfl (by rw [cells8_size]; exact info8) ?_)
              clear hg2
              go_loopw [9, 10, 11, 60] (fun _ _ _ t60 W => ∃ (i : Nat) (C : Array Value), i ≤ 8 ∧ t60 = .int .i64 i ∧ Hid (C.size = 32) ∧ Hid (Below w.heap.size w W) ∧ Hid (W.heap[g2]? = some (.cells C 114 (0, 0))) ∧ Hid (∀ j, j < 4 * i → C[j]? = some (.int .u8 (((out8 v2).getD j 0).toNat : Int)))) (fun _ _ _ t60 _ => 8 - (intOf t60).toNat)
              case atStart => exact ⟨0, _, by omega, rfl, Lib.hid (by simp), HBL, HB1, Lib.hid (fun j hj => by omega)⟩
              case round =>
                clear HBL HB1
                obtain ⟨i2, C2, hi2, rfl, HC, HBe, HB, HA⟩ := hrel
                by_cases hlt : i2 < 8
                · have hix := index8 v2 i2 hlt
                  have hi28 : (i2 : Int) < 8 := by omega
                  go_wp2_with (fail)
                  clear hix
                  go_loopw [11, 64] (fun _ t64 W => ∃ (j : Nat) (C : Array Value), j ≤ 4 ∧ t64 = .int .i64 j ∧ Hid (C.size = 32) ∧ Hid (Below w.heap.size w W) ∧ Hid (W.heap[g2]? = some (.cells C 114 (0, 0))) ∧ Hid (∀ a, a < 4 * i2 + j → C[a]? = some (.int .u8 (((out8 v2).getD a 0).toNat : Int)))) (fun _ t64 _ => 4 - (intOf t64).toNat)
                  case atStart => exact ⟨0, C2, by omega, rfl, HC, HBe, HB, HA⟩
                  case round =>
                    clear HC HBe HB HA
                    obtain ⟨j2, C3, hj2, rfl, HC, HBe, HB, HA⟩ := hrel
                    by_cases hlt2 : j2 < 4
                    · have f0 : wr.frozen? ⟨g2, 4 * i2 + j2, none⟩ = false := frozen_of_row wr _ _ C3 114 HB.out
                      obtain ⟨v0, a0⟩ : ∃ v0, wr.cell? ⟨g2, 4 * i2 + j2, none⟩ = some v0 := by
                        have hC := HC.out
                        exact ⟨C3[4 * i2 + j2]'(by omega), by rw [cell_of_row wr _ _ C3 114 (0, 0) HB.out]; exact Array.getElem?_eq_getElem (by omega)⟩
                      have b1 : 0 ≤ 24 - 8 * (j2 : Int) := by omega
                      have b2 : 24 - 8 * (j2 : Int) < 32 := by omega
                      have b3 : 4 * (i2 : Int) + (j2 : Int) < 32 := by omega
                      have HG := Lib.hid (out_go v2 i2 j2 hlt hlt2)
                      go_wp2_with (fail)
                      refine ⟨⟨j2 + 1, _, by omega, by go_num, Lib.hid ?_, Lib.hid (HBe.out.setCell (p := ⟨g2, 4 * i2 + j2, none⟩) HGE.out _), Lib.hid (heap_set HB.out _ _), Lib.hid (set_get (k := 4 * i2 + j2) (C := C3) (P := fun a => .int .u8 (((out8 v2).getD a 0).toNat : Int)) (by have := HC.out; omega) ?_ HA.out)⟩, by simp [intOf]; omega⟩
                      · simpa using HC.out
                      · rw [HG.out]
                    · go_wp2_with (fail)
                      exact ⟨⟨i2 + 1, C3, by omega, by go_num, HC, HBe, HB, Lib.hid (fun a ha => HA.out a (by omega))⟩, by simp [intOf]; omega⟩
                · have hcv := conv_back' wr 63 9 5 114 Tryz.underlying63 Tryz.underlying5 Tryz.underlying9 (out8 v2) g2 32 32 rfl C2 (0, 0) HB.out
                    (fun j hj => by
                      have hj8 : j < 32 := by rw [out8_length] at hj; exact hj
                      rw [HA.out j (by omega), List.getD_eq_getElem?_getD, List.getElem?_eq_getElem hj]; rfl)
                  rw [← HSHA.out] at hcv
                  clear HA HB HC
                  go_wp2_with (fail)
                  go_ret
                  exact ⟨rfl, HBe.out⟩
end Go.Proofs.YtjajoiahgfafgaaGreatDoor
end

/- strings.Builder's WriteByte at a builder that the call itself has made. -/
section
namespace Go.Proofs.YtjajoiahgfafgaaGreatDoor
open Go.RowKit

set_option maxHeartbeats 400000 in
theorem WriteByte_any (B b : Nat) (bs : List Value) (c : Int) (w : World) (h : Lib.IsBuilderF 65 5 B b bs w) (hlen : bs.length + 1 ≤ 140737488355328) (hBw : B ≤ w.heap.size) :
    Calls Tryz.prog 76 #[.pointer (some ⟨b, 0, none⟩), .int .u8 c] w fun e w' => e = .returned .nilIface ∧
      (Lib.BuilderAtF 65 5 B b (.pointer (some ⟨b, 0, none⟩)) (bs ++ [.int .u8 c]) w' ∧ Below B w w' ∧ Lib.OthersKept 5 (some b) w w') := by
  obtain ⟨i0, hi, hz0, hz1, hz2⟩ := info_parts info_byte
  go_enter Tryz.func76, Tryz.ntmps76
  go_wp2_with (fail)
  refine (copyCheck_any B b bs _ h).mono ?_
  rintro e w1 ⟨rfl, h1, hb1, hk1⟩
  obtain ⟨hB, v, hbk, hown, hne⟩ := h1
  have c0 : w1.cell? ⟨b, 0, none⟩ = some (.pointer (some ⟨b, 0, none⟩)) := by rw [Lib.cell_of_heap hbk]; rfl
  have c1 : w1.cell? ⟨b, 1, none⟩ = some v := by rw [Lib.cell_of_heap hbk]; rfl
  go_wp2_with (at_builtin; refine wpList_append_ownF _ rfl _ _ 63 rfl B 5 i0 (.int .u8 0) 1 1 Tryz.underlying63 hi hz0 hz1 hz2 rfl (by decide) _ _ _ rfl (hown.alloc _) ⟨w1.heap.size, 0, none⟩ 1 1 [.int .u8 c] rfl rfl ?c1 ?c2 ?c3 ?c4 ?c5 ?_)
  case c1 =>
    intro j u hj
    match j, hj with
    | 0, hj => simp at hj; subst hj; simp [Addr.add]
  case c2 => intro u hu; simp at hu; subst hu; rfl
  case c3 => unfold maxLen; omega
  case c4 => omega
  case c5 => have := hb1.size; simp; omega
  intro v' w2 hown' hgrow _
  have hlt : b < w1.heap.size := by
    rcases Nat.lt_or_ge b w1.heap.size with h' | h'
    · exact h'
    · simp [Array.getElem?_eq_none h'] at hbk
  have hb2 : w2.heap[b]? = some (.cells #[.pointer (some ⟨b, 0, none⟩), v] 65 (0, 0)) := by
    rw [hgrow.block b (by simp; omega) (fun e => hne e.symm), Lib.alloc_old w1 _ b hlt]
    exact hbk
  have d0 : w2.cell? ⟨b, 0, none⟩ = some (.pointer (some ⟨b, 0, none⟩)) := by rw [Lib.cell_of_heap hb2]; rfl
  have d1 : w2.cell? ⟨b, 1, none⟩ = some v := by rw [Lib.cell_of_heap hb2]; rfl
  have f1 : w2.frozen? ⟨b, 1, none⟩ = false := Lib.frozen_of_heap hb2 1
  obtain ⟨ao, n', cap, rfl⟩ : ∃ ao n' cap, v' = .slice ao n' cap := by
    rcases hown'.2 with ⟨hv, _⟩ | ⟨g, cap, cur, fz, hv, _⟩
    · exact ⟨_, _, _, hv⟩
    · exact ⟨_, _, _, hv⟩
  go_wp2
  go_ret
  refine ⟨rfl, ?_, ?_, ((hk1.alloc _).grown hgrow (Lib.ownsRowF_kind (hown.alloc _))).setCell ⟨b, 1, none⟩ rfl _⟩
  · exact Lib.BuilderAtF.put (T := 65) (e := 5) hB hb2 (bs' := bs ++ [.int .u8 c]) (by simpa using hown') (by decide)
  · exact ((hb1.alloc (by have := hb1.size; omega) _).grown hgrow (by have := hb1.size; simp; omega) (fun k hk => (hown.lt k hk).1)).setCell (p := ⟨b, 1, none⟩) hB _

/-- The same, by lists of bytes. -/
theorem WriteByte_list (B b : Nat) (l : List UInt8) (c : UInt8) (w : World) (h : Lib.IsBuilderF 65 5 B b (Lib.byteCells l) w) (hlen : l.length + 1 ≤ 140737488355328) (hBw : B ≤ w.heap.size) :
    Calls Tryz.prog 76 #[.pointer (some ⟨b, 0, none⟩), .int .u8 (c.toNat : Int)] w fun e w' => e = .returned .nilIface ∧
      (Lib.IsBuilderF 65 5 B b (Lib.byteCells (l ++ [c])) w' ∧ Below B w w' ∧ Lib.OthersKept 5 (some b) w w') :=
  (WriteByte_any B b _ (c.toNat : Int) w h (by simpa [Lib.byteCells_length] using hlen) hBw).mono fun e w' ⟨he, h1, h2, h3⟩ =>
    ⟨he, .inr (by rw [Lib.byteCells_append]; exact h1), h2, h3⟩
end Go.Proofs.YtjajoiahgfafgaaGreatDoor
end

/- hash.Hex, hawserref04.Hex: two digits a byte. -/
section
namespace Go.Proofs.YtjajoiahgfafgaaGreatDoor
open Go.RowKit Plain

set_option maxRecDepth 100000 in
set_option maxHeartbeats 400000 in
theorem Hex_any (s : List UInt8) (w : World) (hs : s.length ≤ 70368744177664) :
    Calls Tryz.prog 46 #[.string ⟨s.toArray⟩] w (Ret w (.string ⟨(hex s).toArray⟩)) := by
  go_enter Tryz.func46, Tryz.ntmps46
  go_wp2_with (fail)
  go_loopw [4, 7] (fun _ t7 wr => ∃ k : Nat, k ≤ s.length ∧ t7 = .int .i64 k ∧ Lib.IsBuilderF 65 5 w.heap.size w.heap.size (Lib.byteCells (hex (s.take k))) wr ∧ Below w.heap.size w wr) (fun _ t7 _ => s.length - (intOf t7).toNat)
  case atStart => exact ⟨0, by omega, rfl, fresh_builder w, (Below.refl _ _).alloc (Nat.le_refl _) _⟩
  case round =>
    obtain ⟨k, hk, rfl, hbl, hb⟩ := hrel
    by_cases hlt : k < s.length
    · have hsn := hex_snoc s k hlt
      have hl := hex_length (s.take k)
      rw [List.length_take, Nat.min_eq_left (by omega)] at hl
      generalize hc : s[k] = c at *
      obtain ⟨x, y, hx, hy, x16, y16, ex, ey, _, hB⟩ := hex_go c
      rw [hB] at hsn
      generalize hd1 : digs[x] = d1 at *
      generalize hd2 : digs[y] = d2 at *
      generalize hex (s.take k) = l at *
      unfold digs at hd1 hd2
      have HS := Lib.hid hsn
      have HL := Lib.hid hl
      have hl2 : l.length ≤ 2 * k := by omega
      clear hsn hB hl
      go_wp2_with (fail)
      refine (WriteByte_list _ _ l d1 _ hbl (by omega) hb.size).mono ?_
      rintro e w1 ⟨rfl, hbl1, hb1, _⟩
      go_wp2_with (fail)
      refine (WriteByte_list _ _ (l ++ [d1]) d2 _ hbl1 (by simp; omega) (hb.trans hb1).size).mono ?_
      rintro e w2 ⟨rfl, hbl2, hb2, _⟩
      go_wp2_with (fail)
      go_roundw
      case rel => exact ⟨k + 1, by omega, by go_num, by rw [HS.out]; simpa using hbl2, (hb.trans hb1).trans hb2⟩
      case measure => simp [intOf]; omega
    · obtain rfl : k = s.length := by omega
      go_wp2_with (fail)
      refine (Tryz.Builder_String_any_f _ _ _ _ hbl hb.size).mono ?_
      rintro e w1 ⟨rfl, _, hb1⟩
      go_wp2_with (fail)
      go_ret
      exact ⟨rfl, hb.trans hb1⟩

/-- append onto a row of the call's own, as one step of a region that draws. -/
theorem step_append_own {P : Program} {ops : Array Oper} {o : Oper} {a : Act} {w : World} {K : Act → World → Prop} {Q : Exit → Act → World → Prop} {E : Prop} (hg : o.guard = none) (s x : Operand) (t : TypeId)
    (ho : o.op = .call { callee := .builtin .append, args := #[s, x], argTypes := #[t, t] })
    (base : Nat) (e : TypeId) (i : TypeInfo) (z : Value) (size bytes : Nat) (ht : P.underlying t = some (.slice e)) (hi : P.info? e = some i) (hz : i.zero = some z)
    (hsize : i.size = size) (hby : i.bytes = bytes) (hzs : z.cells.size = size) (hsz : 0 < size)
    (v : Value) (n : Nat) (xs : List Value) (hs : a.eval s = v) (hown : w.ownsRow base e size v n xs)
    (ad : Addr) (m c : Nat) (news : List Value) (hx : a.eval x = .slice (some ad) m c) (hl : news.length = m * size) (hnews : ∀ j u, news[j]? = some u → w.cell? (ad.add j) = some u) (h1 : ∀ u ∈ news, u.oneCell' = true)
    (h63 : n + m ≤ maxLen) (hbytes : (n + m) * bytes ≤ 140737488355328) (hbase : base ≤ w.heap.size)
    (h : ∀ v' w', w'.ownsRow base e size v' (n + m) (xs ++ news) → w.grownBy w' v.ownBlock → (v' = .slice none 0 0 ↔ v = .slice none 0 0 ∧ m = 0) → K (a.put o.dst v') w') :
    if Region.wanted o (yielded ops a.tmps) = true then Oper.wp P o a w K Q else E := by
  have hw : Region.wanted o (yielded ops a.tmps) = true := by simp [Region.wanted, hg]
  rw [if_pos hw]
  exact wp_append_own w s x t ho base e i z size bytes ht hi hz hsize hby hzs hsz v n xs hs hown ad m c news hx hl hnews h1 h63 hbytes hbase h

theorem laid_row (w : World) (xs : List Value) (e : TypeId) : ∀ j u, xs[j]? = some u → (w.alloc (.cells xs.toArray e)).cell? ((⟨w.heap.size, 0, none⟩ : Addr).add j) = some u := by
  intro j u hj
  rw [show (⟨w.heap.size, 0, none⟩ : Addr).add j = ⟨w.heap.size, j, none⟩ by unfold Addr.add; split <;> simp_all, cell_of_row _ _ _ xs.toArray e (0, 0) (heap_alloc_new w _)]
  simpa using hj
theorem own_drewN {w : World} {base : Nat} {e : TypeId} {size n : Nat} {v : Value} {xs : List Value} (h : w.ownsRow base e size v n xs) (k : Nat) : (w.drewN k).ownsRow base e size v n xs := h

set_option maxRecDepth 100000 in
set_option maxHeartbeats 400000 in
theorem Hex_ref (s : List UInt8) (w : World) (hs : s.length ≤ 70368744177664) :
    Calls Tryz.prog 85 #[.string ⟨s.toArray⟩] w (Ret w (.string ⟨(hex s).toArray⟩)) := by
  obtain ⟨i0, hi, hz0, hz1, hz2⟩ := info_parts info_byte
  go_enter Tryz.func85, Tryz.ntmps85
  go_wp2_with (fail)
  go_loopw [4, 5] (fun t4 t5 wr => ∃ k : Nat, k ≤ s.length ∧ t5 = .int .i64 k ∧ wr.ownsRow w.heap.size 5 1 t4 (hex (s.take k)).length (bytesV (hex (s.take k))) ∧ Below w.heap.size w wr) (fun _ t5 _ => s.length - (intOf t5).toNat)
  case atStart => exact ⟨0, by omega, rfl, ⟨rfl, .inl ⟨rfl, rfl⟩⟩, Below.refl _ _⟩
  case round =>
    obtain ⟨k, hk, rfl, hown, hb⟩ := hrel
    by_cases hlt : k < s.length
    · have hsn := hex_snoc s k hlt
      have hl := hex_length (s.take k)
      rw [List.length_take, Nat.min_eq_left (by omega)] at hl
      generalize hc : s[k] = c at *
      obtain ⟨x, y, hx, hy, x16, y16, ex, _, ey, hB⟩ := hex_go c
      rw [hB] at hsn
      generalize hd1 : digs[x] = d1 at *
      generalize hd2 : digs[y] = d2 at *
      generalize hex (s.take k) = l at *
      unfold digs at hd1 hd2
      have HS := Lib.hid hsn
      have HL := Lib.hid hl
      have hl2 : l.length ≤ 2 * k := by omega
      have px : (0 : Int) ≤ k := by omega
      have qx : (k : Int) < s.length := by omega
      have px1 : (0 : Int) ≤ x := by omega
      have qx1 : (x : Int) < 16 := by omega
      have py1 : (0 : Int) ≤ y := by omega
      have qy1 : (y : Int) < 16 := by omega
      have wx : IntKind.u8.wrap (x : Int) = x := IntWalk.u8_in _ (by omega)
      have wy : IntKind.u8.wrap (y : Int) = y := IntWalk.u8_in _ (by omega)
      have ty : (c.toNat : Int).tmod 16 = y := by rw [Int.tmod_eq_emod_of_nonneg (by omega)]; exact ey
      have tx : (c.toNat : Int).tdiv 16 = x := by rw [Int.tdiv_eq_ediv_of_nonneg (by omega)]; exact ex
      clear hsn hB hl
      go_wp2_with (fail)
      go_region_law (refine step_append_own rfl _ _ 63 rfl w.heap.size 5 i0 (.int .u8 0) 1 1 Tryz.underlying63 hi hz0 hz1 hz2 rfl (by decide) _ _ _ rfl ((own_drewN hown 1).alloc _) ⟨wr.heap.size, 0, none⟩ 2 2 [.int .u8 (d1.toNat : Int), .int .u8 (d2.toNat : Int)] rfl rfl (laid_row wr _ _) (by intro u hu; simp at hu; rcases hu with rfl | rfl <;> rfl) (by unfold maxLen; omega) (by omega) (by have := hb.size; simp; omega) ?_; intro v' w2 hown' hgrow _)
      clear wx wy ty tx
      all_goals
        have hb2 := ((hb.alloc hb.size (.cells #[.int .u8 (d1.toNat : Int), .int .u8 (d2.toNat : Int)] 5)).drew).grown hgrow (by have := hb.size; simp; omega) (fun k hk => (hown.lt k hk).1)
        go_wp2_with (fail)
        go_roundw
        case rel => exact ⟨k + 1, by omega, by go_num, by rw [HS.out]; simpa [bytesV] using hown', hb2⟩
        case measure => simp [intOf]; omega
    · obtain rfl : k = s.length := by omega
      go_wp2_with (fail)
      rw [conv_own (P := Tryz.prog) 63 9 5 Tryz.underlying63 Tryz.underlying5 Tryz.underlying9 hown]
      go_wp2_with (fail)
      go_ret
      exact ⟨rfl, hb⟩
end Go.Proofs.YtjajoiahgfafgaaGreatDoor
end
