/- Texts joined: Tree6, PlainHex, Plain04, Plain05, Plain05b. -/
import Derived.Test.YtjajoiahgfafgaaGreatDoorBArchBares7
import Derived.Laws.BitsAllLaws
import Derived.Laws.BitsLemmas
set_option linter.unusedSimpArgs false
set_option linter.unusedVariables false

/- tree.Same. -/
section
set_option linter.unusedVariables false
namespace Go.Proofs.YtjajoiahgfafgaaGreatDoor
open Go.RowKit Plain

namespace Plain
def eqAt (a b : List Nd) (i : Nat) : Bool := a.getD i default == b.getD i default
theorem eq_rest {a b : List Nd} (h : a.length = b.length) : restOK (eqAt a b) 0 a.length = (a == b) := by
  rw [restOK_all, Bool.eq_iff_iff, List.all_eq_true, beq_iff_eq]
  constructor
  · intro q
    refine List.ext_getElem h fun i h1 h2 => ?_
    have := q i (List.mem_range.2 h1)
    unfold eqAt at this
    simpa [List.getD, h1, h2] using this
  · rintro rfl i hi
    unfold eqAt; simp
theorem nd_ne {x y : Nd} : (x == y) = ((x.path == y.path) && (x.kind == y.kind) && (x.data == y.data) && (x.mode == y.mode)) := by
  obtain ⟨p, k, d, m⟩ := x
  obtain ⟨p', k', d', m'⟩ := y
  rw [Bool.eq_iff_iff]
  simp only [beq_iff_eq, Bool.and_eq_true, Nd.mk.injEq, and_assoc]
end Plain

theorem fields_node : (Tryz.prog.fieldsOf 41).toList.map (fun f => (f.name == "_", f.type, f.offset)) = [(false, 9, 0), (false, 3, 1), (false, 9, 2), (false, 3, 3)] := by kernel_rfl
theorem ba_list_beq (l m : List UInt8) : ((ByteArray.mk l.toArray).toList == (ByteArray.mk m.toArray).toList) = (l == m) := by
  rw [ByteArray.toList_eq, ByteArray.toList_eq]
theorem part_cell {P : Program} {W : World} {ty : TypeId} {d : TypeDesc} {xs : Array Value} {off : Nat} {v : Value} (hu : P.underlying ty = some d) (hd : (match d with | .struct _ | .array _ _ => true | _ => false) = false) (hx : xs[off]? = some v) :
    (part ty xs off).run P W = .ok v W := by
  have hagg : (isAgg ty).run P W = .ok false W := by
    unfold isAgg
    rw [Sem.run_bind, run_underlying hu W]
    cases d <;> simp_all
  simp [part, hagg, hx, Sem.run_bind]
theorem eqFields_step {P : Program} {W : World} {d : Nat} {xs ys : Array Value} {f : Field} {fs : List Field} {a b : Value} {r : Bool} (hn : (f.name == "_") = false) (ha : (part f.type xs f.offset).run P W = .ok a W) (hb : (part f.type ys f.offset).run P W = .ok b W) (hr : (Op.equalIn d f.type a b).run P W = .ok r W)
    {q : Bool} (hq : (Op.eqFields d xs ys fs).run P W = .ok q W) : (Op.eqFields d xs ys (f :: fs)).run P W = .ok (r && q) W := by
  have hn' : f.name ≠ "_" := by simpa using hn
  simp only [Op.eqFields, if_pos hn', Sem.run_bind, ha, hb, hr, Result.andThen_ok]
  cases r
  · simp
  · simpa using hq
theorem node_eq (W : World) (x y : Nd) : (Op.equalIn 10000 41 (.agg (ndV x).toArray) (.agg (ndV y).toArray)).run Tryz.prog W = .ok (((x.path == y.path) && ((x.kind == y.kind) && ((x.data == y.data) && ((x.mode == y.mode) && true))))) W := by
  obtain ⟨p, k, d, m⟩ := x
  obtain ⟨p', k', d', m'⟩ := y
  rw [run_equalIn_agg (d := 9999) _ _ _ _ (by kernel_rfl) (by kernel_rfl)]
  have hf := fields_node
  revert hf
  generalize (Tryz.prog.fieldsOf 41).toList = fs
  intro hf
  obtain ⟨f0, f1, f2, f3, rfl⟩ : ∃ f0 f1 f2 f3, fs = [f0, f1, f2, f3] := by
    have hl : fs.length = 4 := by simpa using congrArg List.length hf
    clear hf
    match fs, hl with
    | [f0, f1, f2, f3], _ => exact ⟨f0, f1, f2, f3, rfl⟩
  simp only [List.map_cons, List.map_nil, List.cons.injEq, Prod.mk.injEq, and_true] at hf
  obtain ⟨⟨n0, t0, o0⟩, ⟨n1, t1, o1⟩, ⟨n2, t2, o2⟩, ⟨n3, t3, o3⟩⟩ := hf
  have hS := fun {xs : Array Value} {off : Nat} {v : Value} (hx : xs[off]? = some v) => part_cell (W := W) (ty := 9) Tryz.underlying9 rfl hx
  have hI := fun {xs : Array Value} {off : Nat} {v : Value} (hx : xs[off]? = some v) => part_cell (W := W) (ty := 3) Tryz.underlying3 rfl hx
  refine eqFields_step n0 (a := .string ⟨p.toArray⟩) (b := .string ⟨p'.toArray⟩) (by rw [t0, o0]; exact hS rfl) (by rw [t0, o0]; exact hS rfl) (by rw [t0, run_equalIn_string (d := 9998) _ _ _ _ Tryz.underlying9, ba_list_beq]) ?_
  refine eqFields_step n1 (a := .int .i64 k) (b := .int .i64 k') (by rw [t1, o1]; exact hI rfl) (by rw [t1, o1]; exact hI rfl) (by rw [t1, run_equalIn_int (d := 9998) _ _ _ _ _ _ Tryz.underlying3]) ?_
  refine eqFields_step n2 (a := .string ⟨d.toArray⟩) (b := .string ⟨d'.toArray⟩) (by rw [t2, o2]; exact hS rfl) (by rw [t2, o2]; exact hS rfl) (by rw [t2, run_equalIn_string (d := 9998) _ _ _ _ Tryz.underlying9, ba_list_beq]) ?_
  exact eqFields_step n3 (a := .int .i64 m) (b := .int .i64 m') (by rw [t3, o3]; exact hI rfl) (by rw [t3, o3]; exact hI rfl) (by rw [t3, run_equalIn_int (d := 9998) _ _ _ _ _ _ Tryz.underlying3]) rfl
theorem node_neq (W : World) (x y : Nd) : (binOp .neq 41 (.agg (ndV x).toArray) (.agg (ndV y).toArray)).run Tryz.prog W = .ok (.bool (!(x == y))) W := by
  rw [run_neq_struct, node_eq, Result.andThen_ok, nd_ne]
  simp only [Bool.and_true, Bool.and_assoc]

set_option maxHeartbeats 4000000 in
set_option maxRecDepth 100000 in
theorem equal_any (a b : List Nd) (A B : Option Addr) (c d : Nat) (w : World) (ha : IsRows w 4 A (a.map ndV)) (hb : IsRows w 4 B (b.map ndV)) (hla : a.length ≤ 9223372036854775807) (hlb : b.length ≤ 9223372036854775807) :
    Calls Tryz.prog 54 #[.slice A a.length c, .slice B b.length d] w (Ret w (.bool (a == b))) := by
  by_cases hl : a.length = b.length
  · have HRES := Lib.hid (eq_rest hl)
    have HA := Lib.hid (fun W (h : Below w.heap.size w W) => ha.below h)
    have HB := Lib.hid (fun W (h : Below w.heap.size w W) => hb.below h)
    generalize (a == b) = res at *
    have HL := Lib.hid hl
    rw [← hl]
    clear ha hb hl
    go_enter Tryz.func54, Tryz.ntmps54
    go_wp2_with (fail)
    go_loopw [13] (fun t13 W => ∃ (i : Nat), i ≤ a.length ∧ t13 = .int .i64 i ∧ Hid (restOK (eqAt a b) i a.length = res) ∧ Hid (Below w.heap.size w W)) (fun t13 _ => a.length - (intOf t13).toNat)
    case atStart => exact ⟨0, by omega, rfl, HRES, Lib.hid (Below.refl _ _)⟩
    case round =>
      clear HRES
      obtain ⟨i, hi, rfl, HE, HW⟩ := hrel
      have i0 : (0 : Int) ≤ i := by omega
      by_cases hlt : i < a.length
      · have i1 : (i : Int) < a.length := by omega
        have e1 : IntKind.i64.wrap ((i : Int) + 1) = (i : Int) + 1 := IntWalk.i64_in _ (by omega)
        obtain ⟨ad, rfl, c0, c1, c2, c3⟩ := node_cells (HA.out _ HW.out) hlt
        obtain ⟨bd, rfl, d0, d1, d2, d3⟩ := node_cells (HB.out _ HW.out) (i := i) (by rw [← HL.out]; exact hlt)
        have hat := restOK_at (f := eqAt a b) hlt
        rw [HE.out] at hat
        rw [show eqAt a b i = (a.getD i default == b.getD i default) from rfl] at hat
        generalize a.getD i default = x at *
        generalize b.getD i default = y at *
        obtain ⟨p, k, dd, m⟩ := x
        obtain ⟨p', k', dd', m'⟩ := y
        simp only at c0 c1 c2 c3 d0 d1 d2 d3
        have HAT := Lib.hid hat
        clear hat
        cases hxy : (({ path := p, kind := k, data := dd, mode := m } : Nd) == { path := p', kind := k', data := dd', mode := m' }) with
        | false =>
          have HNE := fun W => node_neq W ⟨p, k, dd, m⟩ ⟨p', k', dd', m'⟩
          rw [hxy] at HNE
          unfold ndV at HNE
          simp only [Bool.not_false] at HNE
          have HRF := Lib.hid (show res = false by rw [HAT.out, hxy]; rfl)
          clear hxy
          go_wp2_with (fail)
          go_quiet (fail)
          go_wp2_with (fail)
          go_ret
          exact ⟨by rw [HRF.out]; first | rfl | simp, below_drewN HW.out _⟩
        | true =>
          have HNE := fun W => node_neq W ⟨p, k, dd, m⟩ ⟨p', k', dd', m'⟩
          rw [hxy] at HNE
          unfold ndV at HNE
          simp only [Bool.not_true] at HNE
          have HRF := Lib.hid (show restOK (eqAt a b) (i + 1) a.length = res by rw [HAT.out, hxy, Bool.true_and])
          clear hxy
          go_wp2_with (fail)
          go_quiet (fail)
          go_wp2_with (fail)
          go_roundw
          case rel => exact ⟨i + 1, by omega, by go_num, HRF, Lib.hid (below_drewN HW.out _)⟩
          case measure => simp [intOf]; omega
      · obtain rfl : i = a.length := by omega
        have i1 : decide ((a.length : Int) < (a.length : Int)) = false := by rw [decide_eq_false_iff_not]; omega
        have HE2 := Lib.hid (show res = true by rw [← HE.out, restOK_end])
        go_wp2_with (fail)
        go_ret
        exact ⟨by rw [HE2.out]; first | rfl | simp, HW.out⟩
  · have h1 : ((a.length : Int) == (b.length : Int)) = false := by
      rw [beq_eq_false_iff_ne]; omega
    have HRES := Lib.hid (show (a == b) = false by rw [beq_eq_false_iff_ne]; intro e; exact hl (by rw [e]))
    rw [HRES.out]
    clear hl
    go_enter Tryz.func54, Tryz.ntmps54
    go_wp2_with (fail)
    go_ret
    exact ⟨rfl, Below.refl _ _⟩

set_option maxHeartbeats 1000000 in
theorem tsame_any (a b : List Nd) (A B : Option Addr) (c d : Nat) (w : World) (ha : IsRows w 4 A (a.map ndV)) (hb : IsRows w 4 B (b.map ndV)) (hla : a.length ≤ 9223372036854775807) (hlb : b.length ≤ 9223372036854775807) :
    Calls Tryz.prog 22 #[.slice A a.length c, .slice B b.length d] w (Ret w (.bool (a == b))) := by
  have HE := Lib.hid (equal_any a b A B c d w ha hb hla hlb)
  clear ha hb
  generalize (a == b) = res at *
  go_enter Tryz.func22, Tryz.ntmps22
  go_wp2_with (go_at_call 54; refine HE.out.mono ?_; rintro e w1 ⟨rfl, hb1⟩)
  go_ret
  exact ⟨rfl, hb1⟩
end Go.Proofs.YtjajoiahgfafgaaGreatDoor
end

/- Plain laws of the digits: no program in sight. -/
section
namespace Go.Proofs.YtjajoiahgfafgaaGreatDoor.Plain

/-- The sixteen digits. -/
def digs : List UInt8 := [48, 49, 50, 51, 52, 53, 54, 55, 56, 57, 97, 98, 99, 100, 101, 102]
def hexB (c : UInt8) : List UInt8 := [digs.getD (c.toNat / 16) 0, digs.getD (c.toNat % 16) 0]
def hex (l : List UInt8) : List UInt8 := l.flatMap hexB
theorem hex_length (l : List UInt8) : (hex l).length = 2 * l.length := by
  induction l with
  | nil => rfl
  | cons c l ih => simp only [hex, List.flatMap_cons, List.length_append] at ih ⊢; simp only [hexB, List.length_cons, List.length_nil]; omega
theorem hex_snoc (l : List UInt8) (k : Nat) (h : k < l.length) : hex (l.take (k + 1)) = hex (l.take k) ++ hexB l[k] := by
  unfold hex
  rw [List.take_succ_eq_append_getElem h, List.flatMap_append]; simp
/-- the digits' places, as the program reckons them -/
theorem hex_go (c : UInt8) : ∃ (x y : Nat) (hx : x < digs.length) (hy : y < digs.length), x < 16 ∧ y < 16 ∧ (c.toNat : Int) / 16 = (x : Int) ∧ Go.bits .and .u8 (c.toNat : Int) 15 = (y : Int) ∧ (c.toNat : Int) % 16 = (y : Int) ∧ hexB c = [digs[x], digs[y]] := by
  have hc := c.toNat_lt
  refine ⟨c.toNat / 16, c.toNat % 16, by simp [digs]; omega, by simp [digs]; omega, by omega, by omega, by omega, ?_, by omega, ?_⟩
  · rw [show (15 : Int) = ((15 : Nat) : Int) by rfl, u8_and_nat _ _ hc (by omega)]
    have := Nat.and_two_pow_sub_one_eq_mod c.toNat 4
    simp at this
    rw [this]
  · simp only [hexB, List.getD_eq_getElem?_getD]
    rw [List.getElem?_eq_getElem, List.getElem?_eq_getElem]; rfl
end Go.Proofs.YtjajoiahgfafgaaGreatDoor.Plain
end

/- Plain laws of the check sum: no program in sight. -/
section
namespace Go.Proofs.YtjajoiahgfafgaaGreatDoor.Plain

/-- One bit's step. -/
def bit1 (v : Nat) : Nat := if v % 2 = 1 then (v / 2) ^^^ 3988292384 else v / 2
def bits1 : Nat → Nat → Nat
  | 0, v => v
  | n + 1, v => bit1 (bits1 n v)
/-- One byte's step. -/
def crcB (v : Nat) (c : UInt8) : Nat := bits1 8 (v ^^^ c.toNat)
def crcRun (l : List UInt8) : Nat := l.foldl crcB 4294967295
def crc (l : List UInt8) : Nat := crcRun l ^^^ 4294967295

theorem xor_lt {a b : Nat} (ha : a < 4294967296) (hb : b < 4294967296) : a ^^^ b < 4294967296 := by
  have := Nat.xor_lt_two_pow (n := 32) (x := a) (y := b) (by omega) (by omega); omega

theorem bit1_lt {v : Nat} (h : v < 4294967296) : bit1 v < 4294967296 := by
  unfold bit1; split
  · exact xor_lt (by omega) (by omega)
  · omega
theorem bits1_lt {n v : Nat} (h : v < 4294967296) : bits1 n v < 4294967296 := by
  induction n with
  | zero => exact h
  | succ n ih => exact bit1_lt ih
theorem crcB_lt {v : Nat} (h : v < 4294967296) (c : UInt8) : crcB v c < 4294967296 := by
  have := c.toNat_lt
  exact bits1_lt (xor_lt h (by omega))
theorem foldl_crcB_lt (l : List UInt8) : ∀ {v : Nat}, v < 4294967296 → l.foldl crcB v < 4294967296 := by
  induction l with
  | nil => intro v h; exact h
  | cons c l ih => intro v h; exact ih (crcB_lt h c)
theorem crcRun_lt (l : List UInt8) : crcRun l < 4294967296 := foldl_crcB_lt l (by omega)
theorem crc_lt (l : List UInt8) : crc l < 4294967296 := xor_lt (crcRun_lt l) (by omega)

theorem xor_mod2 (a b : Nat) : (a ^^^ b) % 2 = (a % 2 + b % 2) % 2 := by
  have h := Nat.testBit_xor (x := a) (y := b) (i := 0)
  simp only [Nat.testBit_zero] at h
  rcases Nat.mod_two_eq_zero_or_one a with ha | ha <;> rcases Nat.mod_two_eq_zero_or_one b with hb | hb <;> rcases Nat.mod_two_eq_zero_or_one (a ^^^ b) with hc | hc <;> rw [ha, hb, hc] at h <;> simp at h <;> omega
theorem xor_div2 (a b : Nat) : (a ^^^ b) / 2 = a / 2 ^^^ b / 2 := by
  apply Nat.eq_of_testBit_eq
  intro i
  simp [Nat.testBit_xor, Nat.testBit_div_two]

theorem bit1_xor (a b : Nat) : bit1 (a ^^^ b) = bit1 a ^^^ bit1 b := by
  unfold bit1
  have h2 := xor_mod2 a b
  rw [xor_div2]
  rcases Nat.mod_two_eq_zero_or_one a with ha | ha <;> rcases Nat.mod_two_eq_zero_or_one b with hb | hb
  · rw [if_neg (by omega), if_neg (by omega), if_neg (by omega)]
  · rw [if_pos (by omega), if_neg (by omega), if_pos (by omega), Nat.xor_assoc]
  · rw [if_pos (by omega), if_pos (by omega), if_neg (by omega), Nat.xor_assoc, Nat.xor_comm (b / 2), Nat.xor_assoc]
  · rw [if_neg (by omega), if_pos (by omega), if_pos (by omega)]
    rw [Nat.xor_assoc, ← Nat.xor_assoc 3988292384, Nat.xor_comm 3988292384 (b / 2), Nat.xor_assoc (b / 2), Nat.xor_self, Nat.xor_zero]
theorem bits1_xor (n a b : Nat) : bits1 n (a ^^^ b) = bits1 n a ^^^ bits1 n b := by
  induction n with
  | zero => rfl
  | succ n ih => simp only [bits1, ih, bit1_xor]
theorem bit1_even (k : Nat) : bit1 (2 * k) = k := by
  unfold bit1; rw [if_neg (by omega)]; omega
theorem bits1_add (n m v : Nat) : bits1 (n + m) v = bits1 n (bits1 m v) := by
  induction n with
  | zero => simp [bits1]
  | succ n ih => rw [Nat.succ_add]; simp only [bits1, ih]
theorem bits1_4_16 (k : Nat) : bits1 4 (16 * k) = k := by
  simp only [bits1]
  rw [show 16 * k = 2 * (8 * k) by omega, bit1_even, show 8 * k = 2 * (4 * k) by omega, bit1_even, show 4 * k = 2 * (2 * k) by omega, bit1_even, bit1_even]
theorem split16 (v : Nat) : v = 16 * (v / 16) ^^^ v % 16 := by
  have h : 16 * (v / 16) ^^^ v % 16 = 16 * (v / 16) + v % 16 := by
    have h1 := Nat.two_pow_add_eq_or_of_lt (i := 4) (b := v % 16) (by omega) (v / 16)
    have h2 : 16 * (v / 16) ||| v % 16 = 16 * (v / 16) ^^^ v % 16 := by
      apply Nat.eq_of_testBit_eq
      intro i
      have e : 16 * (v / 16) = 2 ^ 4 * (v / 16) := by omega
      rw [Nat.testBit_or, Nat.testBit_xor, e, Nat.testBit_two_pow_mul]
      by_cases hi : 4 ≤ i
      · have : (v % 16).testBit i = false := by
          rw [show v % 16 = v % 2 ^ 4 by omega, Nat.testBit_mod_two_pow]; simp; omega
        simp [this]
      · simp [hi]
    rw [show (2 : Nat) ^ 4 = 16 by rfl] at h1
    omega
  omega
/-- four bits by the table -/
def nib (v : Nat) : Nat := v / 16 ^^^ bits1 4 (v % 16)
theorem nib_eq (v : Nat) : nib v = bits1 4 v := by
  conv => rhs; rw [split16 v, bits1_xor, bits1_4_16]
  rfl
theorem crcB_nib (v : Nat) (c : UInt8) : crcB v c = nib (nib (v ^^^ c.toNat)) := by
  rw [nib_eq, nib_eq, ← bits1_add]; rfl
theorem nib_lt {v : Nat} (h : v < 4294967296) : nib v < 4294967296 := by rw [nib_eq]; exact bits1_lt h

/-- the program's step of one bit -/
theorem bit1_go (x : Nat) (hx : x < 4294967296) :
    Go.bits .xor .u32 ((x : Int) / 2) (Go.bits .and .u32 3988292384 (-(Go.bits .and .u32 (x : Int) 1) % 4294967296)) = (bit1 x : Int) := by
  have h1 : Go.bits .and .u32 (x : Int) 1 = ((x % 2 : Nat) : Int) := by
    rw [show (1 : Int) = ((1 : Nat) : Int) by rfl, u32_and_nat x 1 hx (by omega), Nat.and_one_is_mod]
  rw [h1]
  unfold bit1
  rcases Nat.mod_two_eq_zero_or_one x with h | h
  · rw [h, if_neg (by omega)]
    rw [show (-((0 : Nat) : Int)) % 4294967296 = ((0 : Nat) : Int) by rfl, show (3988292384 : Int) = ((3988292384 : Nat) : Int) by rfl, u32_and_nat _ _ (by omega) (by omega), Nat.and_zero,
      show ((x : Int) / 2) = ((x / 2 : Nat) : Int) by omega, u32_xor_nat _ _ (by omega) (by omega), Nat.xor_zero]
  · rw [h, if_pos rfl]
    rw [show (-((1 : Nat) : Int)) % 4294967296 = ((4294967295 : Nat) : Int) by rfl, show (3988292384 : Int) = ((3988292384 : Nat) : Int) by rfl, u32_and_nat _ _ (by omega) (by omega),
      show (3988292384 &&& 4294967295 : Nat) = 3988292384 by rfl,
      show ((x : Int) / 2) = ((x / 2 : Nat) : Int) by omega, u32_xor_nat _ _ (by omega) (by omega)]

/-- what the program's round does: all intermediate numbers by name -/
theorem nib_go (v : Nat) (c : Nat) (hv : v < 4294967296) (hc : c < 256) : ∃ x1 m1 x2 m2 x3 : Nat, x1 < 4294967296 ∧ m1 < 16 ∧ x2 < 4294967296 ∧ m2 < 16 ∧
    Go.bits .xor .u32 (v : Int) (c : Int) = (x1 : Int) ∧ Go.bits .and .u32 (x1 : Int) 15 = (m1 : Int) ∧ Go.bits .xor .u32 ((x1 : Int) / 16) (bits1 4 m1 : Int) = (x2 : Int) ∧
    Go.bits .and .u32 (x2 : Int) 15 = (m2 : Int) ∧ Go.bits .xor .u32 ((x2 : Int) / 16) (bits1 4 m2 : Int) = (x3 : Int) ∧ x3 = nib (nib (v ^^^ c)) := by
  have h1 := xor_lt hv (show c < 4294967296 by omega)
  have h2 := nib_lt h1
  have hand : ∀ x : Nat, x < 4294967296 → Go.bits .and .u32 (x : Int) 15 = ((x % 16 : Nat) : Int) := fun x hx => by
    rw [show (15 : Int) = ((15 : Nat) : Int) by rfl, u32_and_nat _ _ hx (by omega)]
    have := Nat.and_two_pow_sub_one_eq_mod x 4
    simp at this
    rw [this]
  have hnib : ∀ x : Nat, x < 4294967296 → Go.bits .xor .u32 ((x : Int) / 16) (bits1 4 (x % 16) : Int) = (nib x : Int) := fun x hx => by
    rw [show ((x : Int) / 16) = ((x / 16 : Nat) : Int) by omega, u32_xor_nat _ _ (by omega) (bits1_lt (by omega))]
    rfl
  exact ⟨v ^^^ c, (v ^^^ c) % 16, nib (v ^^^ c), nib (v ^^^ c) % 16, _, h1, by omega, h2, by omega, u32_xor_nat _ _ hv (by omega), hand _ h1, hnib _ h1, hand _ h2, hnib _ h2, rfl⟩

theorem xor_ones (x : Nat) (hx : x < 4294967296) : x ^^^ 4294967295 = 4294967295 - x := by
  have h := congrArg BitVec.toNat (BitVec.xor_allOnes (x := BitVec.ofNat 32 x))
  rw [BitVec.toNat_xor, BitVec.toNat_not] at h
  simp [Nat.mod_eq_of_lt (show x < 2 ^ 32 by omega)] at h
  exact h
theorem bit1_ref1 (x : Nat) (hx : x < 4294967296) (h : x % 2 = 1) : Go.bits .xor .u32 ((x : Int) / 2) 3988292384 = (bit1 x : Int) := by
  unfold bit1
  rw [if_pos h, show ((x : Int) / 2) = ((x / 2 : Nat) : Int) by omega, show (3988292384 : Int) = ((3988292384 : Nat) : Int) by rfl, u32_xor_nat _ _ (by omega) (by omega)]
theorem bit1_ref0 (x : Nat) (h : x % 2 = 0) : ((x : Int) / 2) = (bit1 x : Int) := by
  unfold bit1
  rw [if_neg (by omega)]; omega
theorem not_go (x : Nat) (hx : x < 4294967296) : Go.bits .xor .u32 IntKind.u32.max (x : Int) = ((x ^^^ 4294967295 : Nat) : Int) := by
  rw [show IntKind.u32.max = ((4294967295 : Nat) : Int) by rfl, u32_xor_nat _ _ (by omega) hx, Nat.xor_comm]
end Go.Proofs.YtjajoiahgfafgaaGreatDoor.Plain
end

/- Plain laws of records: no program in sight. -/
section
namespace Go.Proofs.YtjajoiahgfafgaaGreatDoor.Plain

def four (n : Nat) : List UInt8 := [UInt8.ofNat (n / 16777216), UInt8.ofNat (n / 65536 % 256), UInt8.ofNat (n / 256 % 256), UInt8.ofNat (n % 256)]
def num : List UInt8 → Nat
  | a :: b :: c :: d :: _ => a.toNat * 16777216 + b.toNat * 65536 + c.toNat * 256 + d.toNat
  | _ => 0

theorem num_lt (s : List UInt8) : num s < 4294967296 := by
  unfold num
  split
  · rename_i a b c d r
    have := a.toNat_lt; have := b.toNat_lt; have := c.toNat_lt; have := d.toNat_lt
    omega
  · omega
theorem four_length (n : Nat) : (four n).length = 4 := rfl
theorem num_four (n : Nat) (h : n < 4294967296) (r : List UInt8) : num (four n ++ r) = n := by
  simp only [four, num, List.cons_append, List.nil_append, UInt8.toNat_ofNat']
  omega

theorem or_add (a b c d : Nat) (_ha : a < 256) (hb : b < 256) (hc : c < 256) (hd : d < 256) :
    (((a * 16777216) ||| (b * 65536)) ||| (c * 256)) ||| d = a * 16777216 + b * 65536 + c * 256 + d := by
  have e1 : a * 16777216 ||| b * 65536 = a * 16777216 + b * 65536 := by
    have := Nat.two_pow_add_eq_or_of_lt (i := 24) (b := b * 65536) (by omega) a
    rw [show (2 : Nat) ^ 24 * a = a * 16777216 by omega] at this
    exact this.symm
  rw [e1]
  have e2 : (a * 16777216 + b * 65536) ||| c * 256 = a * 16777216 + b * 65536 + c * 256 := by
    have := Nat.two_pow_add_eq_or_of_lt (i := 16) (b := c * 256) (by omega) (a * 256 + b)
    rw [show (2 : Nat) ^ 16 * (a * 256 + b) = a * 16777216 + b * 65536 by omega] at this
    exact this.symm
  rw [e2]
  have := Nat.two_pow_add_eq_or_of_lt (i := 8) (b := d) (by omega) (a * 65536 + b * 256 + c)
  rw [show (2 : Nat) ^ 8 * (a * 65536 + b * 256 + c) = a * 16777216 + b * 65536 + c * 256 by omega] at this
  exact this.symm

/-- the program's number of four bytes -/
theorem num_go (a b c d : Nat) (ha : a < 256) (hb : b < 256) (hc : c < 256) (hd : d < 256) :
    Go.bits .or .u32 (Go.bits .or .u32 (Go.bits .or .u32 ((a : Int) * 16777216) ((b : Int) * 65536)) ((c : Int) * 256)) (d : Int) = ((a * 16777216 + b * 65536 + c * 256 + d : Nat) : Int) := by
  have h1 : a * 16777216 ||| b * 65536 < 4294967296 := by have := Nat.or_lt_two_pow (n := 32) (x := a * 16777216) (y := b * 65536) (by omega) (by omega); omega
  have h2 : (a * 16777216 ||| b * 65536) ||| c * 256 < 4294967296 := by have := Nat.or_lt_two_pow (n := 32) (y := c * 256) (show a * 16777216 ||| b * 65536 < 2 ^ 32 by omega) (by omega); omega
  rw [show ((a : Int) * 16777216) = ((a * 16777216 : Nat) : Int) by omega, show ((b : Int) * 65536) = ((b * 65536 : Nat) : Int) by omega, show ((c : Int) * 256) = ((c * 256 : Nat) : Int) by omega,
    u32_or_nat _ _ (by omega) (by omega), u32_or_nat _ _ h1 (by omega), u32_or_nat _ _ h2 (by omega), or_add a b c d ha hb hc hd]

theorem four_cases {s : List UInt8} (h : 4 ≤ s.length) : ∃ a b c d r, s = a :: b :: c :: d :: r := by
  match s, h with
  | a :: b :: c :: d :: r, _ => exact ⟨a, b, c, d, r, rfl⟩

def maxRec : Nat := 1048576
/-- a payload's record -/
def record (p : List UInt8) : List UInt8 := four p.length ++ (four (crc (four p.length ++ p)) ++ p)
def pack (p : List UInt8) : List UInt8 × Nat := if p.length ≤ maxRec then (record p, 0) else ([], 32)
theorem pack_ok {p : List UInt8} (h : p.length ≤ 1048576) : pack p = (record p, 0) := if_pos h
theorem pack_more {p : List UInt8} (h : 1048576 < p.length) : pack p = ([], 32) := if_neg (by unfold maxRec; omega)
/-- the record with which a text begins: the payload, what is behind, the error -/
def next (s : List UInt8) : List UInt8 × List UInt8 × Nat :=
  if s.length < 8 then ([], [], 50)
  else if maxRec < num s then ([], [], 32)
  else if s.length < 8 + num s then ([], [], 50)
  else if num (s.drop 4) ≠ crc (s.take 4 ++ (s.drop 8).take (num s)) then ([], [], 51)
  else ((s.drop 8).take (num s), s.drop (8 + num s), 0)

theorem next_short {s : List UInt8} (h : s.length < 8) : next s = ([], [], 50) := by unfold next; rw [if_pos h]
theorem next_more {s : List UInt8} (h : 8 ≤ s.length) (h1 : 1048576 < num s) : next s = ([], [], 32) := by unfold next maxRec; rw [if_neg (by omega), if_pos h1]
theorem next_cut {s : List UInt8} (h : 8 ≤ s.length) (h1 : num s ≤ 1048576) (h2 : s.length < 8 + num s) : next s = ([], [], 50) := by unfold next maxRec; rw [if_neg (by omega), if_neg (by omega), if_pos h2]
theorem next_sum {s : List UInt8} (h : 8 ≤ s.length) (h1 : num s ≤ 1048576) (h2 : 8 + num s ≤ s.length) (h3 : num (s.drop 4) ≠ crc (s.take 4 ++ (s.drop 8).take (num s))) : next s = ([], [], 51) := by
  unfold next maxRec; rw [if_neg (by omega), if_neg (by omega), if_neg (by omega), if_pos h3]
theorem next_ok {s : List UInt8} (h : 8 ≤ s.length) (h1 : num s ≤ 1048576) (h2 : 8 + num s ≤ s.length) (h3 : num (s.drop 4) = crc (s.take 4 ++ (s.drop 8).take (num s))) :
    next s = ((s.drop 8).take (num s), s.drop (8 + num s), 0) := by
  unfold next maxRec; rw [if_neg (by omega), if_neg (by omega), if_neg (by omega), if_neg (by simpa using h3)]

/-- just one record -/
def one (s : List UInt8) : List UInt8 × Nat := if (next s).2.1 ≠ [] then ([], 32) else ((next s).1, (next s).2.2)
theorem one_more {s : List UInt8} (h : (!(next s).2.1.isEmpty) = true) : one s = ([], 32) := by unfold one; rw [if_pos (by simpa using h)]
theorem one_ok {s : List UInt8} (h : (!(next s).2.1.isEmpty) = false) : one s = ((next s).1, (next s).2.2) := by unfold one; rw [if_neg (by simpa using h)]
/-- what is left of a text is shorter -/
theorem next_rest (s : List UInt8) (h : (next s).2.2 = 0) : (next s).2.1.length < s.length ∧ (next s).2.1.length + (next s).1.length + 8 = s.length ∧ (next s).1.length ≤ 1048576 := by
  unfold next at *
  split at h
  · cases h
  split at h
  · cases h
  split at h
  · cases h
  split at h
  · cases h
  · rename_i h1 h2 h3 h4
    rw [if_neg h1, if_neg h2, if_neg h3, if_neg h4]
    unfold maxRec at h2
    simp; omega
theorem next_err (s : List UInt8) (h : (next s).2.2 ≠ 0) : (next s).1 = [] ∧ (next s).2.1 = [] := by
  unfold next at *
  split at h
  · rename_i h1; rw [if_pos h1]; exact ⟨rfl, rfl⟩
  split at h
  · rename_i h1 h2; rw [if_neg h1, if_pos h2]; exact ⟨rfl, rfl⟩
  split at h
  · rename_i h1 h2 h3; rw [if_neg h1, if_neg h2, if_pos h3]; exact ⟨rfl, rfl⟩
  split at h
  · rename_i h1 h2 h3 h4; rw [if_neg h1, if_neg h2, if_neg h3, if_pos h4]; exact ⟨rfl, rfl⟩
  · exact absurd rfl h
theorem next_suffix (s : List UInt8) (h : (next s).2.2 = 0) : (next s).2.1 = s.drop (s.length - (next s).2.1.length) := by
  have hr := next_rest s h
  unfold next at *
  split at h
  · cases h
  split at h
  · cases h
  split at h
  · cases h
  split at h
  · cases h
  · rename_i h1 h2 h3 h4
    rw [if_neg h1, if_neg h2, if_neg h3, if_neg h4] at *
    simp only [List.length_drop] at *
    congr 1
    omega
theorem next_codes (s : List UInt8) : (next s).2.2 = 0 ∨ (next s).2.2 = 32 ∨ (next s).2.2 = 50 ∨ (next s).2.2 = 51 := by
  unfold next
  split
  · simp
  split
  · simp
  split
  · simp
  split <;> simp

/-- all records of a text, from its rest on: n rounds at the most -/
def allN : Nat → List UInt8 → List (List UInt8) × List UInt8 × Nat
  | 0, s => ([], s, 0)
  | n + 1, s => if s = [] then ([], [], 0) else if (next s).2.2 ≠ 0 then ([], s, (next s).2.2) else
      ((next s).1 :: (allN n (next s).2.1).1, (allN n (next s).2.1).2)
/-- the payloads, what is left, the error -/
def all (s : List UInt8) : List (List UInt8) × List UInt8 × Nat := allN s.length s

theorem allN_nil (n : Nat) : allN n [] = ([], [], 0) := by cases n <;> simp [allN]
theorem allN_ge : ∀ (n : Nat) (s : List UInt8), s.length ≤ n → ∀ m, n ≤ m → allN m s = allN n s := by
  intro n
  induction n with
  | zero => intro s h m _; rw [List.eq_nil_of_length_eq_zero (by omega : s.length = 0), allN_nil, allN_nil]
  | succ n ih =>
    intro s h m hm
    obtain ⟨m, rfl⟩ : ∃ k, m = k + 1 := ⟨m - 1, by omega⟩
    by_cases hs : s = []
    · subst hs; rw [allN_nil, allN_nil]
    simp only [allN, if_neg hs]
    by_cases he : (next s).2.2 = 0
    · have := (next_rest _ he).1
      rw [if_neg (by simpa using he), if_neg (by simpa using he), ih _ (by omega) m (by omega)]
    · rw [if_pos he, if_pos he]
theorem all_nil : all [] = ([], [], 0) := allN_nil _
theorem all_err {s : List UInt8} (hs : s ≠ []) (h : (next s).2.2 ≠ 0) : all s = ([], s, (next s).2.2) := by
  unfold all
  obtain ⟨k, hk⟩ : ∃ k, s.length = k + 1 := ⟨s.length - 1, by have := List.length_pos_iff.2 hs; omega⟩
  rw [hk, allN, if_neg hs, if_pos h]
theorem all_more {s : List UInt8} (hs : s ≠ []) (h : (next s).2.2 = 0) : all s = ((next s).1 :: (all (next s).2.1).1, (all (next s).2.1).2) := by
  unfold all
  obtain ⟨k, hk⟩ : ∃ k, s.length = k + 1 := ⟨s.length - 1, by have := List.length_pos_iff.2 hs; omega⟩
  have := (next_rest _ h).1
  rw [hk, allN, if_neg hs, if_neg (by simpa using h), allN_ge _ _ (Nat.le_refl _) k (by omega)]

/-- records one behind the other -/
def join (l : List (List UInt8)) : List UInt8 × Nat := if l.all (fun p => decide (p.length ≤ 1048576)) then (l.flatMap record, 0) else ([], 32)
theorem join_ok {l : List (List UInt8)} (h : ∀ p ∈ l, p.length ≤ 1048576) : join l = (l.flatMap record, 0) := if_pos (by simpa using h)
theorem join_bad {l : List (List UInt8)} {p : List UInt8} (hp : p ∈ l) (h : 1048576 < p.length) : join l = ([], 32) := if_neg (by simp; exact ⟨p, hp, h⟩)
theorem flatMap_take {l : List (List UInt8)} {k : Nat} (h : k < l.length) (f : List UInt8 → List UInt8) : (l.take (k + 1)).flatMap f = (l.take k).flatMap f ++ f l[k] := by
  rw [List.take_succ_eq_append_getElem h, List.flatMap_append]; simp

end Go.Proofs.YtjajoiahgfafgaaGreatDoor.Plain
end

/- Plain laws of records, more: what is packed is read, what is turned is refused. -/
section
namespace Go.Proofs.YtjajoiahgfafgaaGreatDoor.Plain

theorem four_num {s : List UInt8} (h : 4 ≤ s.length) : four (num s) = s.take 4 := by
  obtain ⟨a, b, c, d, r, rfl⟩ := four_cases h
  have := a.toNat_lt; have := b.toNat_lt; have := c.toNat_lt; have := d.toNat_lt
  simp only [num, four, List.take_succ_cons, List.take_zero]
  congr 1
  · apply UInt8.toNat.inj; simp; omega
  congr 1
  · apply UInt8.toNat.inj; simp; omega
  congr 1
  · apply UInt8.toNat.inj; simp; omega
  congr 1
  · apply UInt8.toNat.inj; simp; omega

theorem record_length (p : List UInt8) : (record p).length = 8 + p.length := by simp [record, four_length]; omega

theorem num_record (p r : List UInt8) (hp : p.length ≤ 1048576) : num (record p ++ r) = p.length := by
  unfold record; rw [List.append_assoc, num_four _ (by omega)]

theorem record_take4 (p r : List UInt8) : (record p ++ r).take 4 = four p.length := by
  unfold record; rw [List.append_assoc, List.take_append_of_le_length (by simp [four_length])]; exact List.take_of_length_le (by simp [four_length])
theorem record_drop4 (p r : List UInt8) : (record p ++ r).drop 4 = four (crc (four p.length ++ p)) ++ (p ++ r) := by
  unfold record
  rw [List.append_assoc, List.append_assoc, List.drop_left' (four_length _)]
theorem record_drop8 (p r : List UInt8) : (record p ++ r).drop 8 = p ++ r := by
  rw [show 8 = 4 + 4 by rfl, ← List.drop_drop, record_drop4, List.drop_left' (four_length _)]

theorem next_record (p r : List UInt8) (hp : p.length ≤ 1048576) : next (record p ++ r) = (p, r, 0) := by
  have hl : (record p ++ r).length = 8 + p.length + r.length := by rw [List.length_append, record_length]
  have hn := num_record p r hp
  rw [next_ok (by omega) (by omega) (by omega) ?_, hn]
  · rw [record_drop8, List.take_left' rfl, ← List.drop_drop, record_drop8, List.drop_left' rfl]
  · rw [hn, record_drop4, record_take4, record_drop8, List.take_left' rfl, num_four _ (crc_lt _)]

theorem one_record (p : List UInt8) (hp : p.length ≤ 1048576) : one (record p) = (p, 0) := by
  have h := next_record p [] hp
  rw [List.append_nil] at h
  unfold one; rw [h]; simp

/-- what Next takes is a record -/
theorem record_of_next (s : List UInt8) (h : (next s).2.2 = 0) : s = record (next s).1 ++ (next s).2.1 ∧ (next s).1.length ≤ 1048576 := by
  have hr := next_rest s h
  refine ⟨?_, hr.2.2⟩
  unfold next at h hr ⊢
  split at h
  · cases h
  split at h
  · cases h
  split at h
  · cases h
  split at h
  · cases h
  · rename_i h1 h2 h3 h4
    rw [if_neg h1, if_neg h2, if_neg h3, if_neg h4]
    simp only
    have h4' : num (s.drop 4) = crc (s.take 4 ++ (s.drop 8).take (num s)) := by simpa using h4
    have hl : ((s.drop 8).take (num s)).length = num s := by simp; omega
    have e4 := four_num (s := s) (by omega)
    have e8 := four_num (s := s.drop 4) (by simp; omega)
    unfold record
    rw [hl, e4, ← h4', e8]
    rw [List.append_assoc, List.append_assoc]
    have : (s.drop 8).take (num s) ++ s.drop (8 + num s) = s.drop 8 := by
      rw [← List.drop_drop, List.take_append_drop]
    rw [this, show s.drop 8 = (s.drop 4).drop 4 by rw [List.drop_drop], List.take_append_drop, List.take_append_drop]

/-- what is read of a text: its records, as many as there are -/
theorem all_facts : ∀ (n : Nat) (s : List UInt8), s.length ≤ n → 8 * (all s).1.length + (all s).2.1.length ≤ s.length ∧ s = (all s).1.flatMap record ++ (all s).2.1 ∧ (∀ p ∈ (all s).1, p.length ≤ 1048576) ∧ ((all s).2.2 = 0 ↔ (all s).2.1 = []) := by
  intro n
  induction n with
  | zero => intro s h; rw [List.eq_nil_of_length_eq_zero (by omega : s.length = 0), all_nil]; simp
  | succ n ih =>
    intro s h
    by_cases hs : s = []
    · subst hs; rw [all_nil]; simp
    by_cases he : (next s).2.2 = 0
    · have hr := next_rest s he
      have hrec := record_of_next s he
      obtain ⟨i1, i2, i3, i4⟩ := ih (next s).2.1 (by omega)
      rw [all_more hs he]
      refine ⟨by simp; omega, ?_, ?_, i4⟩
      · simp only [List.flatMap_cons, List.append_assoc]
        rw [← i2]; exact hrec.1
      · intro p hp
        rcases List.mem_cons.1 hp with rfl | hp
        · exact hrec.2
        · exact i3 p hp
    · rw [all_err hs he]
      exact ⟨by simp, by simp, by simp, by simp [he, hs]⟩
theorem all_length (s : List UInt8) : (all s).1.length ≤ s.length := by have := (all_facts _ s (Nat.le_refl _)).1; omega

/-! ### one byte turned -/
theorem bit1_zero {a : Nat} (ha : a < 4294967296) (h : bit1 a = 0) : a = 0 := by
  unfold bit1 at h
  split at h
  · rename_i h1
    have h2 := congrArg (· ^^^ 3988292384) h
    simp only [Nat.xor_assoc, Nat.xor_self, Nat.xor_zero, Nat.zero_xor] at h2
    omega
  · omega
theorem xor_eq_zero {a b : Nat} (h : a ^^^ b = 0) : a = b := by
  have h2 := congrArg (· ^^^ b) h
  simpa [Nat.xor_assoc] using h2
theorem bit1_inj {a b : Nat} (ha : a < 4294967296) (hb : b < 4294967296) (h : bit1 a = bit1 b) : a = b := by
  apply xor_eq_zero
  apply bit1_zero (xor_lt ha hb)
  rw [bit1_xor, h, Nat.xor_self]
theorem bits1_inj (n : Nat) {a b : Nat} (ha : a < 4294967296) (hb : b < 4294967296) (h : bits1 n a = bits1 n b) : a = b := by
  induction n with
  | zero => exact h
  | succ n ih => exact ih (bit1_inj (bits1_lt ha) (bits1_lt hb) h)
theorem xor_inj {a b c : Nat} (h : a ^^^ c = b ^^^ c) : a = b := by
  have h2 := congrArg (· ^^^ c) h
  simpa [Nat.xor_assoc] using h2
theorem crcB_inj {a b : Nat} {c : UInt8} (ha : a < 4294967296) (hb : b < 4294967296) (h : crcB a c = crcB b c) : a = b := by
  have := c.toNat_lt
  exact xor_inj (bits1_inj 8 (xor_lt ha (by omega)) (xor_lt hb (by omega)) h)
theorem crcB_ne {v : Nat} {c d : UInt8} (hv : v < 4294967296) (h : crcB v c = crcB v d) : c = d := by
  have := c.toNat_lt; have := d.toNat_lt
  have h2 := bits1_inj 8 (xor_lt hv (by omega)) (xor_lt hv (by omega)) h
  rw [Nat.xor_comm v, Nat.xor_comm v] at h2
  exact UInt8.toNat.inj (xor_inj h2)
theorem foldl_inj (l : List UInt8) : ∀ {a b : Nat}, a < 4294967296 → b < 4294967296 → l.foldl crcB a = l.foldl crcB b → a = b := by
  induction l with
  | nil => intro a b _ _ h; exact h
  | cons c l ih => intro a b ha hb h; exact crcB_inj ha hb (ih (crcB_lt ha c) (crcB_lt hb c) h)
/-- texts that differ in one byte have two check sums -/
theorem crc_turned (pre suf : List UInt8) {c d : UInt8} (h : c ≠ d) : crc (pre ++ c :: suf) ≠ crc (pre ++ d :: suf) := by
  intro he
  have h1 := xor_inj he
  unfold crcRun at h1
  rw [List.foldl_append, List.foldl_append, List.foldl_cons, List.foldl_cons] at h1
  have hv := foldl_crcB_lt pre (v := 4294967295) (by omega)
  exact h (crcB_ne hv (foldl_inj suf (crcB_lt hv c) (crcB_lt hv d) h1))

theorem num_inj {s t : List UInt8} (hs : 4 ≤ s.length) (ht : 4 ≤ t.length) (h : num s = num t) : s.take 4 = t.take 4 := by
  rw [← four_num hs, ← four_num ht, h]

/-- whatever is read of a record one byte of which is another one: it is refused -/
theorem one_turned (p : List UInt8) (hp : p.length ≤ 1048576) (pre suf : List UInt8) {c d : UInt8} (hne : c ≠ d) (h : record p = pre ++ c :: suf) :
    (one (pre ++ d :: suf)).1 = [] ∧ (one (pre ++ d :: suf)).2 ≠ 0 := by
  generalize ht : pre ++ d :: suf = t
  have hlen : t.length = 8 + p.length := by
    rw [← ht]; have := congrArg List.length h; rw [record_length] at this; simp at this ⊢; omega
  have hnext : ∀ x, next t = x → x.2.2 ≠ 0 → x.1 = [] → x.2.1 = [] → (one t).1 = [] ∧ (one t).2 ≠ 0 := by
    intro x hx h1 h2 h3
    unfold one; rw [hx, h3]; simp [h2, h1]
  have hr4 := record_take4 p []
  have hr8 := record_drop4 p []
  rw [List.append_nil] at hr4
  rw [List.append_nil, List.append_nil] at hr8
  by_cases h8 : 8 ≤ pre.length
  · -- in the payload
    have et4 : t.take 4 = four p.length := by
      rw [← hr4, h, ← ht, List.take_append_of_le_length (by omega), List.take_append_of_le_length (by omega)]
    have hn : num t = p.length := by
      have h0 := four_num (s := t) (by omega)
      rw [et4] at h0
      have := congrArg num h0
      have e1 := num_four (num t) (num_lt t) []
      have e2 := num_four p.length (by omega) []
      rw [List.append_nil] at e1 e2
      rw [e1, e2] at this
      exact this
    have esum : num (t.drop 4) = crc (four p.length ++ p) := by
      have e1 : (t.drop 4).take 4 = four (crc (four p.length ++ p)) := by
        have : ((record p).drop 4).take 4 = four (crc (four p.length ++ p)) := by
          rw [hr8, List.take_append_of_le_length (by simp [four_length])]; exact List.take_of_length_le (by simp [four_length])
        rw [← this, h, ← ht, List.drop_append_of_le_length (by omega), List.drop_append_of_le_length (by omega), List.take_append_of_le_length (by simp; omega), List.take_append_of_le_length (by simp; omega)]
      have h0 := four_num (s := t.drop 4) (by simp; omega)
      rw [e1] at h0
      have := congrArg num h0
      have e2 := num_four (num (t.drop 4)) (num_lt _) []
      have e3 := num_four (crc (four p.length ++ p)) (crc_lt _) []
      rw [List.append_nil] at e2 e3
      rw [e2, e3] at this
      exact this
    have epay : t.drop 8 = pre.drop 8 ++ d :: suf := by rw [← ht, List.drop_append_of_le_length h8]
    have epay0 : p = pre.drop 8 ++ c :: suf := by
      have := record_drop8 p []
      rw [List.append_nil, List.append_nil, h, List.drop_append_of_le_length h8] at this
      exact this.symm
    refine hnext _ (next_sum (by omega) (by omega) (by omega) ?_) (by simp) rfl rfl
    rw [esum, et4, hn, List.take_of_length_le (by simp; omega), epay]
    conv => lhs; rw [show four p.length ++ p = (four p.length ++ pre.drop 8) ++ c :: suf by rw [List.append_assoc, ← epay0]]
    rw [← List.append_assoc]
    exact crc_turned _ _ hne
  · by_cases h4 : 4 ≤ pre.length
    · -- in the sum
      have et4 : t.take 4 = four p.length := by
        rw [← hr4, h, ← ht, List.take_append_of_le_length (by omega), List.take_append_of_le_length (by omega)]
      have hn : num t = p.length := by
        have h0 := four_num (s := t) (by omega)
        rw [et4] at h0
        have := congrArg num h0
        have e1 := num_four (num t) (num_lt t) []
        have e2 := num_four p.length (by omega) []
        rw [List.append_nil] at e1 e2
        rw [e1, e2] at this
        exact this
      have e8 : t.drop 8 = p := by
        have h0 := record_drop8 p []
        rw [List.append_nil, List.append_nil, h] at h0
        rw [← ht, ← h0, List.drop_append, List.drop_append, List.drop_of_length_le (l := pre) (by omega), List.nil_append, List.nil_append]
        obtain ⟨k, hk⟩ : ∃ k, 8 - pre.length = k + 1 := ⟨7 - pre.length, by omega⟩
        rw [hk]; rfl
      refine hnext _ (next_sum (by omega) (by omega) (by omega) ?_) (by simp) rfl rfl
      rw [et4, hn, e8, List.take_of_length_le (Nat.le_refl _)]
      intro he
      have h1 : num (t.drop 4) = num ((record p).drop 4) := by rw [he, hr8, num_four _ (crc_lt _)]
      have h2 := num_inj (by simp; omega) (by simp [record_length]; omega) h1
      rw [h, ← ht] at h2
      have h3 := congrArg (fun l : List UInt8 => l[pre.length - 4]?) h2
      simp only [List.getElem?_take, List.getElem?_drop] at h3
      rw [if_pos (by omega), if_pos (by omega), show 4 + (pre.length - 4) = pre.length by omega] at h3
      simp at h3
      exact hne h3.symm
    · -- in the length
      have hn : num t ≠ p.length := by
        intro he
        have h1 : num t = num (record p) := by
          have := num_record p [] hp
          rw [List.append_nil] at this
          rw [he, this]
        have h2 := num_inj (by omega) (by rw [record_length]; omega) h1
        rw [h, ← ht] at h2
        have h3 := congrArg (fun l : List UInt8 => l[pre.length]?) h2
        simp only [List.getElem?_take] at h3
        rw [if_pos (by omega), if_pos (by omega)] at h3
        simp at h3
        exact hne h3.symm
      by_cases hbig : 1048576 < num t
      · exact hnext _ (next_more (by omega) hbig) (by simp) rfl rfl
      by_cases hcut : t.length < 8 + num t
      · exact hnext _ (next_cut (by omega) (by omega) hcut) (by simp) rfl rfl
      by_cases hsum : num (t.drop 4) = crc (t.take 4 ++ (t.drop 8).take (num t))
      · have hx := next_ok (s := t) (by omega) (by omega) (by omega) hsum
        have hrest : t.drop (8 + num t) ≠ [] := by
          intro he; have := congrArg List.length he; simp at this; omega
        have : one t = ([], 32) := by unfold one; rw [if_pos (by rw [hx]; exact hrest)]
        rw [this]; simp
      · exact hnext _ (next_sum (by omega) (by omega) (by omega) hsum) (by simp) rfl rfl

end Go.Proofs.YtjajoiahgfafgaaGreatDoor.Plain
end
