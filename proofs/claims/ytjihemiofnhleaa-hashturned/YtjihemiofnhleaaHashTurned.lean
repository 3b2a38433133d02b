/- hawserlaw04.HashTurned: up to four bytes side by side that turn, turn the check sum. No condition. -/
import Derived.Test.YtjihemiofnhleaaHashLaw
import Derived.Test.YtjihemiofnhleaaPlain04b
import Derived.Test.YtjihemiofnhleaaOpenArr
import Derived.Test.YtjihemiofnhleaaLoads
import Derived.RegionTactic
import Derived.BigRegion
import Derived.Stop.BytesEq
import Derived.Test.YtjihemiofnhleaaWholeRows
namespace Go.Proofs.Ytjihemiofnhleaa
open Go.RowKit Plain

theorem quiet_conv {P : Program} {w : World} {o : Oper} {a : Act} {K : Act → Prop} (src dst : TypeId) (x : Operand) (ho : o.op = .convert src dst x) (v v' : Value) (hx : a.eval x = v)
    (hr : ∀ W, Below w.heap.size w W → (convert src dst v).run P W = .ok v' W) (h : K (a.put o.dst v')) : o.quiet P a (fun W => Below w.heap.size w W) K := by
  refine ⟨v', fun W hW => ?_, h⟩
  unfold Oper.quietAt execOp
  simp only [ho, hx, Sem.run_bind, hr W hW, Result.andThen_ok, Sem.run_pure]
  exact ⟨rfl, rfl⟩

theorem quiet_bin {P : Program} {w : World} {o : Oper} {a : Act} {K : Act → Prop} (b : BinOp) (t t' : TypeId) (x y : Operand) (ho : o.op = .binOp b t x y t') (u v r : Value) (hx : a.eval x = u) (hy : a.eval y = v)
    (hgd : ∀ W, (eqGuard b t x y u v).run P W = .ok () W) (hr : ∀ W, (binOp b t u v).run P W = .ok r W) (h : K (a.put o.dst r)) : o.quiet P a (fun W => Below w.heap.size w W) K := by
  refine ⟨r, fun W hW => ?_, h⟩
  unfold Oper.quietAt execOp
  simp only [ho, hx, hy, Sem.run_bind, hgd W, hr W, Result.andThen_ok, Sem.run_pure]
  exact ⟨rfl, rfl⟩

theorem row_below2 {W W' : World} {b : Nat} {o : Obj} (h : W.heap[b]? = some o) (hb : Below W.heap.size W W') : W'.heap[b]? = some o := by
  rw [hb.block b (Array.getElem?_eq_some_iff.1 h).1]; exact h

/-- the text behind k of the four bytes -/
def turn1 (m : Nat) (y : List UInt8) (k : Nat) (s : List UInt8) : List UInt8 := s.set (m + k) (s.getD (m + k) 0 ^^^ y.getD k 0)
def turns (m : Nat) (y : List UInt8) : Nat → List UInt8 → List UInt8
  | 0, s => s
  | k + 1, s => turn1 m y k (turns m y k s)
theorem turns_length (m : Nat) (y : List UInt8) (k : Nat) (s : List UInt8) : (turns m y k s).length = s.length := by
  induction k with
  | zero => rfl
  | succ k ih => simp [turns, turn1, ih]

theorem turns_four (p q : List UInt8) (c1 c2 c3 c4 y1 y2 y3 y4 : UInt8) : turns p.length [y1, y2, y3, y4] 4 (p ++ (c1 :: c2 :: c3 :: c4 :: q)) = p ++ ((c1 ^^^ y1) :: (c2 ^^^ y2) :: (c3 ^^^ y3) :: (c4 ^^^ y4) :: q) := by
  simp [turns, turn1, List.getD_eq_getElem?_getD]

theorem xor_self8 {c y : UInt8} (h : c = c ^^^ y) : y = 0 := by
  have h1 := congrArg (c ^^^ ·) h
  simpa [← UInt8.xor_assoc] using h1.symm

theorem turned_iff (s : List UInt8) (m : Nat) (y1 y2 y3 y4 : UInt8) (h : m + 4 ≤ s.length) : (((crc (turns m [y1, y2, y3, y4] 4 s) : Nat) : Int) == ((crc s : Nat) : Int)) = (y1 == 0 && (y2 == 0 && (y3 == 0 && y4 == 0))) := by
  obtain ⟨p, r, rfl, rfl⟩ : ∃ p r, s = p ++ r ∧ m = p.length := ⟨s.take m, s.drop m, by simp, by simp; omega⟩
  obtain ⟨c1, c2, c3, c4, q, rfl⟩ : ∃ c1 c2 c3 c4 q, r = c1 :: c2 :: c3 :: c4 :: q := by
    match r, h with
    | c1 :: c2 :: c3 :: c4 :: q, _ => exact ⟨c1, c2, c3, c4, q, rfl⟩
    | [], h | [_], h | [_, _], h | [_, _, _], h => simp at h; try omega
  rw [turns_four, Bool.eq_iff_iff]
  simp only [beq_iff_eq, Bool.and_eq_true]
  constructor
  · intro h
    obtain ⟨a, b, c, d⟩ := crc_four p q _ _ _ _ _ _ _ _ (by omega : crc (p ++ ((c1 ^^^ y1) :: (c2 ^^^ y2) :: (c3 ^^^ y3) :: (c4 ^^^ y4) :: q)) = crc (p ++ (c1 :: c2 :: c3 :: c4 :: q)))
    exact ⟨xor_self8 a.symm, xor_self8 b.symm, xor_self8 c.symm, xor_self8 d.symm⟩
  · rintro ⟨rfl, rfl, rfl, rfl⟩
    simp

structure Tur (w wr : World) (g cap : Nat) (box C : Array Value) : Prop where
  b0 : wr.heap[w.heap.size]? = some (.cells box 25 (0, 0))
  b1 : wr.heap[g]? = some (.cells C 5 (cap, cap + 1))
  hg : w.heap.size < g
  below : Below w.heap.size w wr
theorem Tur.drew {w wr : World} {g cap : Nat} {box C : Array Value} (h : Tur w wr g cap box C) : Tur w wr.drew g cap box C := ⟨h.b0, h.b1, h.hg, h.below.drew⟩
theorem Tur.set {w wr : World} {g cap : Nat} {box C : Array Value} (h : Tur w wr g cap box C) (k : Nat) (x : Value) : Tur w (wr.setCell ⟨g, k, none⟩ x) g cap box (C.setIfInBounds k x) := by
  have hb1 := h.b1
  have hg := h.hg
  refine ⟨?_, ?_, hg, h.below.setCell (by simp; omega) _⟩
  · rw [← h.b0]
    simp only [World.setCell, Array.getElem?_modify]
    rw [if_neg (by omega)]
  · exact heap_set hb1 k x

theorem frozen_row {w : World} {g cap j : Nat} {C : Array Value} {e : TypeId} (hb : w.heap[g]? = some (.cells C e (cap, cap + 1))) (h : j < cap) : w.frozen? ⟨g, j, none⟩ = false := by
  unfold World.frozen?
  rw [hb]
  simp; omega

theorem small_turned (s : List UInt8) (at_ : Int) (y : List UInt8) (w : World) (hs : s.length ≤ 9223372036854775807) (ha : -9223372036854775808 ≤ at_) (ha2 : at_ ≤ 9223372036854775807) (h : at_ < 0 ∨ (s.length : Int) - 4 < at_) :
    Calls Try.prog 4 #[.string ⟨s.toArray⟩, .int .i64 at_, .agg (bytesV y).toArray] w (Ret w (.bool true)) := by
  have close : ∀ (b1 b2 : Bool), decide (at_ < 0) = b1 → decide ((s.length : Int) - 4 < at_) = b2 → (b1 || b2) = true → Calls Try.prog 4 #[.string ⟨s.toArray⟩, .int .i64 at_, .agg (bytesV y).toArray] w (Ret w (.bool true)) := by
    intro b1 b2 h1 h2 hb
    cases b1 <;> cases b2 <;> first | (simp at hb; done) | (
      clear hb h
      go_enter Try.func4, Try.ntmps4
      go_wp2_with (fail)
      refine (awake_any _).mono ?_
      rintro e w1 ⟨rfl, hb1⟩
      go_wp2_with (fail)
      go_ret
      exact ⟨rfl, ((Below.refl _ _).alloc (Nat.le_refl _) _).trans (hb1.mono (by simp))⟩)
  refine close _ _ rfl rfl ?_
  simp
  omega

set_option maxHeartbeats 1000000 in
theorem HashTurned_main (s : List UInt8) (m : Nat) (y1 y2 y3 y4 : UInt8) (w : World) (hs : s.length ≤ 9223372036854775807) (hm : m + 4 ≤ s.length) :
    Calls Try.prog 4 #[.string ⟨s.toArray⟩, .int .i64 m, .agg (bytesV [y1, y2, y3, y4]).toArray] w (Ret w (.bool true)) := by
  have h1 : decide ((m : Int) < 0) = false := by simp
  have h2 : decide ((s.length : Int) - 4 < m) = false := by simp; omega
  go_enter Try.func4, Try.ntmps4
  go_wp2_with (fail)
  refine (awake_any _).mono ?_
  rintro e w1 ⟨rfl, hb1⟩
  have hbox : w1.heap[w.heap.size]? = some (.cells (bytesV [y1, y2, y3, y4]).toArray 25 (0, 0)) := by
    rw [hb1.block _ (by simp)]; exact heap_alloc_new w _
  have hbb := ((Below.refl w.heap.size w).alloc (Nat.le_refl _) _).trans (hb1.mono (by simp))
  have hsz : w.heap.size < w1.heap.size := by have := hb1.size; simp at this; omega
  clear hb1
  go_wp2_with (fail)
  obtain ⟨cap, C, mm, hconv, hcap, hCs, rfl, hC⟩ := conv_bytes (P := Try.prog) w1 9 26 5 Try.underlying9 Try.underlying26 Try.underlying5 s
  rw [hconv]
  have HT : Hid (Tur w (w1.alloc (.cells C 5 (cap, cap + 1))).drew w1.heap.size cap (bytesV [y1, y2, y3, y4]).toArray C) :=
    Lib.hid ⟨heap_old' hbox, heap_alloc_new w1 _, hsz, (hbb.alloc (by omega) _).drew⟩
  generalize w1.heap.size = g at HT ⊢
  generalize hg : (w1.alloc (.cells C 5 (cap, cap + 1))).drew = W at HT ⊢
  have HC := Lib.hid hC
  have HCS := Lib.hid hCs
  clear hg hconv hC hCs hbb hsz hbox
  go_wp2_with (fail)
  go_loopw [8, 22] (fun _ t22 wr => ∃ (k : Nat) (C : Array Value), k ≤ 4 ∧ t22 = .int .i64 k ∧ Hid (Tur w wr g cap (bytesV [y1, y2, y3, y4]).toArray C) ∧ Hid (∀ j (h : j < (turns m [y1, y2, y3, y4] k s).length), C[j]? = some (.int .u8 ((turns m [y1, y2, y3, y4] k s)[j].toNat : Int)))) (fun _ t22 _ => 4 - (intOf t22).toNat)
  case atStart => exact ⟨0, C, by omega, rfl, HT, HC⟩
  case round =>
    clear HT HC HCS
    clear C
    obtain ⟨k, C, hk, rfl, HT, HC⟩ := hrel
    have hl := turns_length m [y1, y2, y3, y4] k s
    by_cases hlt : k < 4
    · have hmk : m + k < (turns m [y1, y2, y3, y4] k s).length := by omega
      have hstep : turns m [y1, y2, y3, y4] (k + 1) s = (turns m [y1, y2, y3, y4] k s).set (m + k) ((turns m [y1, y2, y3, y4] k s)[m + k] ^^^ [y1, y2, y3, y4].getD k 0) := by
        show turn1 _ _ _ _ = _
        unfold turn1
        rw [List.getD_eq_getElem?_getD, List.getElem?_eq_getElem hmk]; rfl
      have hcell : wr.cell? ⟨g, m + k, none⟩ = some (.int .u8 ((turns m [y1, y2, y3, y4] k s)[m + k].toNat : Int)) := by
        rw [cell_of_row _ _ _ C 5 _ HT.out.b1]; exact HC.out _ hmk
      have hy : wr.cell? ⟨w.heap.size, k, none⟩ = some (.int .u8 (([y1, y2, y3, y4].getD k 0).toNat : Int)) := by
        rw [cell_of_row _ _ _ _ 25 _ HT.out.b0]
        match k, hlt with
        | 0, _ => rfl
        | 1, _ => rfl
        | 2, _ => rfl
        | 3, _ => rfl
      have hfz : wr.frozen? ⟨g, m + k, none⟩ = false := frozen_row HT.out.b1 (by omega)
      have hset := fun n (hx : n < 256) (e : UInt8.ofNat n = _) => bytes_set HC.out hmk hx ((congrArg _ e).trans hstep.symm)
      generalize hc : (turns m [y1, y2, y3, y4] k s)[m + k] = c at *
      generalize hd : [y1, y2, y3, y4].getD k 0 = d at *
      have hx : c.toNat ^^^ d.toNat < 256 := by have := xor_lt24 8 (a := c.toNat) (b := d.toNat) c.toNat_lt d.toNat_lt; omega
      have hxor := u8_xor_nat c.toNat d.toNat c.toNat_lt d.toNat_lt
      have HSET := Lib.hid (hset (c.toNat ^^^ d.toNat) hx (by apply UInt8.toNat.inj; simp))
      clear hset hstep hc hd
      have e1 : IntKind.i64.wrap ((m : Int) + k) = (m : Int) + k := IntWalk.i64_in _ (by omega)
      have n1 : ((m : Int) + k).toNat = m + k := by omega
      have p1 : 0 ≤ ((m : Int) + k) := by omega
      have q1 : ((m : Int) + k) < s.length := by omega
      have p2 : (0 : Int) ≤ k := by omega
      have q2 : (k : Int) < 4 := by omega
      go_wp2_with (fail)
      go_region
      clear e1
      go_wp2_with (fail)
      go_roundw
      case rel => exact ⟨k + 1, _, by omega, by go_num, Lib.hid (HT.out.set _ _).drew, HSET⟩
      case measure => simp [intOf]; omega
    · obtain rfl : k = 4 := by omega
      have hit := turned_iff s m y1 y2 y3 y4 hm
      have hconv := fun W (hW : Below wr.heap.size wr W) => conv_back (P := Try.prog) W 26 9 5 Try.underlying26 Try.underlying5 Try.underlying9 _ g s.length cap hl.symm C (cap, cap + 1) (row_below2 HT.out.b1 hW) HC.out
      generalize turns m [y1, y2, y3, y4] 4 s = t at *
      have HIT := Lib.hid hit
      have HCV := Lib.hid hconv
      clear hit hconv
      go_wp2_with (fail)
      refine wp_region_below (by kernel_rfl) (by kernel_rfl) ?_
      repeat first
        | (go_big_quiet_want; refine quiet_conv 26 9 _ rfl _ _ rfl HCV.out ?_; simp only [Act.put, List.setIfInBounds_toArray, List.set_cons_succ, List.set_cons_zero]; go_big_quiet_on)
        | (go_big_quiet_want; refine quiet_load_row 25 _ rfl _ rfl _ _ _ _ HT.out.b0 Try.underlying25 rfl (by kernel_rfl) ?_; simp only [Act.put, List.setIfInBounds_toArray, List.set_cons_succ, List.set_cons_zero]; go_big_quiet_on)
        | (go_big_quiet_want; refine quiet_bin .eql 25 25 _ _ rfl _ _ _ rfl rfl (fun W => run_eqGuard_agg W _ _ _ _ _ _ Try.eqGuardType25) (fun W => run_eql_bytes W 25 5 4 Try.underlying25 Try.underlying5 (fun _ => by kernel_rfl) [y1, y2, y3, y4] [0, 0, 0, 0] rfl rfl) ?_; simp only [Act.put, List.setIfInBounds_toArray, List.set_cons_succ, List.set_cons_zero]; go_big_quiet_on)
        | go_big_quiet_step ((intro hW; go_at_call 11; exact Ret.quiet hW (Crc_any _ _ (by omega))))
      refine wpQuiet_nil ?_
      intro W4 hW4
      go_wp2_with (fail)
      go_ret
      refine ⟨?_, HT.out.below.trans (hW4.mono HT.out.below.size)⟩
      rw [HIT.out]
      simp

open Go.ChangeShapes Go.WideShapes Go.ChangeAt in
/-- What the walk gives, for every argument. -/
theorem HashTurned_contract (H : Type) (enc : TypeId × Value → H) (W : World) (base : Nat) (args : Array Value) (ds gs : List (DataW H)) (before : List MemPlace)
    (hval : ∀ (j : Nat) t v, Try.f4.params[j]? = some t → args[j]? = some v → Value.okWide Try.prog W .any base t v)
    (hW : DataW.Whole enc Try.prog Try.f4.params.toList Rows.hashTurnedSpec.vars false W args.toList ds gs before) :
    Calls Try.prog 4 args W fun e W' => ∃ v, e = .returned v ∧ Rows.hashTurnedSpec.post enc Try.prog Try.f4 false true false false W args v W' := by
  have hW' := hW
  obtain ⟨p, q, hA0, hV, rfl, hfz, hnd⟩ := hW
  have hA : DataW.TrodAll enc Try.prog W 0 (fun _ => true) true Try.f4.params.toList args.toList ds p := hA0
  rw [Try.params4] at hA hval
  obtain ⟨v0, vs0, d0, ds0, p0, q0, hargs, rfl, rfl, h0, r0⟩ := trodAll_cons hA
  obtain ⟨v1, vs1, d1, ds1, p1, q1, rfl, rfl, rfl, h1, r1⟩ := trodAll_cons r0
  obtain ⟨v2, vs2, d2, ds2, p2, q2, rfl, rfl, rfl, h2, r2⟩ := trodAll_cons r1
  obtain ⟨rfl, rfl, rfl⟩ := trodAll_nil r2
  obtain rfl : args = #[v0, v1, v2] := by cases args; simp_all
  obtain ⟨rfl, rfl⟩ := trodVars_none hV
  obtain ⟨x0, rfl, rfl, rfl, k0⟩ := ChangeMaps.open_string Try.underlying9 (hval 0 9 v0 rfl rfl) h0
  have k0 : x0.data.toList.length ≤ 9223372036854775807 := by unfold maxLen at k0; simpa using k0
  obtain ⟨x1, rfl, rfl, rfl, k1⟩ := open_int Try.underlying3 (hval 1 3 v1 rfl rfl) h1
  have k1 := bounds_i64 k1
  obtain ⟨x2, rfl, k2⟩ := open_byteArr Try.underlying25 Try.underlying5 (by kernel_rfl) (by kernel_rfl) (hval 2 25 v2 rfl rfl) h2
  clear hA0
  obtain ⟨y1, y2, y3, y4, rfl⟩ : ∃ y1 y2 y3 y4, x2 = [y1, y2, y3, y4] := by
    match x2, k2 with
    | [y1, y2, y3, y4], _ => exact ⟨y1, y2, y3, y4, rfl⟩
  refine (show Calls Try.prog 4 #[.string ⟨x0.data.toList.toArray⟩, .int .i64 x1, .agg (bytesV [y1, y2, y3, y4]).toArray] W (Ret W (.bool true)) from ?_).mono ?_
  · by_cases h : x1 < 0 ∨ (x0.data.toList.length : Int) - 4 < x1
    · exact small_turned _ _ _ _ k0 (by omega) (by omega) h
    · obtain ⟨m, rfl⟩ := Int.eq_ofNat_of_zero_le (show 0 ≤ x1 by omega)
      exact HashTurned_main _ m _ _ _ _ _ k0 (by omega)
  exact fun e W' ⟨he, hb⟩ => ⟨_, he, law_post rfl hW' rfl (by kernel_rfl) Try.underlying4 (by kernel_rfl) laidOut hb⟩

open Go.ChangeShapes Go.WideShapes Go.ChangeAt in
set_option maxRecDepth 100000 in
theorem HashTurned_lifted (os : Os) (started : os.Started) (H : Type) (enc : TypeId × Value → H) :
    ReturnsInHanded {} Try.checked os 4 .any (Rows.hashTurnedSpec.pre6 enc Try.prog Try.f4 Rows.hashTurnedRow.domain false) (Rows.hashTurnedSpec.post enc Try.prog Try.f4 false true false false) := by
  refine returnsInHanded_of_change (C := Try.checked) own started (by kernel_rfl) Try.func4
    (ChangeSpec.witness6 (enc := enc) (C := Try.checked) false ⟨#[], #[.string ⟨#[]⟩, .int .i64 0, .agg #[.int .u8 0, .int .u8 0, .int .u8 0, .int .u8 0]], []⟩ 8 (by kernel_rfl) (by kernel_rfl) (by kernel_rfl) (by kernel_rfl)) ?_
  intro W base args ds gs before hval hW _ _
  exact HashTurned_contract H enc W base args ds gs before hval hW

theorem HashTurned_holds : Rows.HashTurnedSaid :=
  OpenClaim.holds_of_wide 4 Try.f4 rfl rfl rfl rfl rfl rfl rfl ⟨rfl, rfl, rfl, rfl, rfl⟩ rfl rfl rfl rfl rfl (by kernel_rfl) Try.func4 (by kernel_rfl)
    (of_decide_eq_true (by kernel_rfl)) (by unfold Func.isWrapper; first | (rw [if_pos (by decide +kernel)]; kernel_rfl) | (rw [if_neg (by decide +kernel)]; exact ⟨rfl, rfl⟩))
    (fun os started H enc _ => HashTurned_lifted os started H enc)
end Go.Proofs.Ytjihemiofnhleaa
