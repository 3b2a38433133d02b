/- Words turned; what the 64 rounds make of a block. -/
import Derived.Test.YtgohhhfnffhgmaaLib
import Derived.Test.YtgohhhfnffhgmaaPlainSha
import Derived.Test.YtgohhhfnffhgmaaWholeRows
import Derived.RegionTactic
import Derived.BigRegion
import Derived.Deep.DeepCutAuto
import Derived.Deep.QuietTactic
import Derived.Deep.RegionWith
import Derived.BigQuiet
namespace Go.Proofs.Ytgohhhfnffhgmaa
open Go.RowKit Plain

set_option maxHeartbeats 400000 in
theorem rotl_any (x : UInt32) (k : Int) (n m : Nat) (w : World) (h1 : Go.bits .and .u64 (IntKind.u64.wrap k) 31 = (m : Int)) (hn : 1 ≤ n) (hm : m + n = 32) (hm1 : 1 ≤ m) :
    Calls Try.prog 38 #[.int .u32 (V x), .int .i64 k] w fun e w' => e = .returned (.int .u32 (V (rotr x (UInt32.ofNat n)))) ∧ w' = w := by
  have hx := V_lt x
  have b1 : 0 ≤ (m : Int) := by omega
  have b2 : (m : Int) < 32 := by omega
  go_enter Try.func38, Try.ntmps38
  go_wp2_with (fail)
  go_ret
  exact ⟨ret_int (by simpa using rot_eq x n m hn hm hm1), rfl⟩

theorem rotl_7 (x : UInt32) (w : World) : Calls Try.prog 38 #[.int .u32 (V x), .int .i64 (-7)] w fun e w' => e = .returned (.int .u32 (V (rotr x 7))) ∧ w' = w :=
  rotl_any x (-7) 7 25 w (by decide) (by decide) (by decide) (by decide)
theorem rotl_18 (x : UInt32) (w : World) : Calls Try.prog 38 #[.int .u32 (V x), .int .i64 (-18)] w fun e w' => e = .returned (.int .u32 (V (rotr x 18))) ∧ w' = w :=
  rotl_any x (-18) 18 14 w (by decide) (by decide) (by decide) (by decide)
theorem rotl_17 (x : UInt32) (w : World) : Calls Try.prog 38 #[.int .u32 (V x), .int .i64 (-17)] w fun e w' => e = .returned (.int .u32 (V (rotr x 17))) ∧ w' = w :=
  rotl_any x (-17) 17 15 w (by decide) (by decide) (by decide) (by decide)
theorem rotl_19 (x : UInt32) (w : World) : Calls Try.prog 38 #[.int .u32 (V x), .int .i64 (-19)] w fun e w' => e = .returned (.int .u32 (V (rotr x 19))) ∧ w' = w :=
  rotl_any x (-19) 19 13 w (by decide) (by decide) (by decide) (by decide)
theorem rotl_2 (x : UInt32) (w : World) : Calls Try.prog 38 #[.int .u32 (V x), .int .i64 (-2)] w fun e w' => e = .returned (.int .u32 (V (rotr x 2))) ∧ w' = w :=
  rotl_any x (-2) 2 30 w (by decide) (by decide) (by decide) (by decide)
theorem rotl_13 (x : UInt32) (w : World) : Calls Try.prog 38 #[.int .u32 (V x), .int .i64 (-13)] w fun e w' => e = .returned (.int .u32 (V (rotr x 13))) ∧ w' = w :=
  rotl_any x (-13) 13 19 w (by decide) (by decide) (by decide) (by decide)
theorem rotl_22 (x : UInt32) (w : World) : Calls Try.prog 38 #[.int .u32 (V x), .int .i64 (-22)] w fun e w' => e = .returned (.int .u32 (V (rotr x 22))) ∧ w' = w :=
  rotl_any x (-22) 22 10 w (by decide) (by decide) (by decide) (by decide)
theorem rotl_6 (x : UInt32) (w : World) : Calls Try.prog 38 #[.int .u32 (V x), .int .i64 (-6)] w fun e w' => e = .returned (.int .u32 (V (rotr x 6))) ∧ w' = w :=
  rotl_any x (-6) 6 26 w (by decide) (by decide) (by decide) (by decide)
theorem rotl_11 (x : UInt32) (w : World) : Calls Try.prog 38 #[.int .u32 (V x), .int .i64 (-11)] w fun e w' => e = .returned (.int .u32 (V (rotr x 11))) ∧ w' = w :=
  rotl_any x (-11) 11 21 w (by decide) (by decide) (by decide) (by decide)
theorem rotl_25 (x : UInt32) (w : World) : Calls Try.prog 38 #[.int .u32 (V x), .int .i64 (-25)] w fun e w' => e = .returned (.int .u32 (V (rotr x 25))) ∧ w' = w :=
  rotl_any x (-25) 25 7 w (by decide) (by decide) (by decide) (by decide)

attribute [local go_sem] V_xor V_and V_or V_not V_add V_add3 V_add4 V_shr3 V_shr10

/-- The eight words, and a row of words, as cells. -/
def cells8 (v : S8) : Array Value := #[.int .u32 (V v.a), .int .u32 (V v.b), .int .u32 (V v.c), .int .u32 (V v.d), .int .u32 (V v.e), .int .u32 (V v.f), .int .u32 (V v.g), .int .u32 (V v.h)]
def wordsV (l : List UInt32) : List Value := l.map fun x => .int .u32 (V x)

theorem heap_set_ne' {w : World} {b c : Nat} (h : c ≠ b) (k : Nat) (v : Value) : (w.setCell ⟨b, k, none⟩ v).heap[c]? = w.heap[c]? := by
  simp only [World.setCell, Array.getElem?_modify]
  rw [if_neg (fun e => h e.symm)]
/-- The worlds of hash.round: block B the state that came in, B + 1 the result, B + 2 the constants, B + 3 the words. -/
structure Rnd (w wr : World) (h : S8) (C : Array Value) : Prop where
  b0 : wr.heap[w.heap.size]? = some (.cells (cells8 h) 78 (0, 0))
  b1 : wr.heap[w.heap.size + 1]? = some (.cells (cells8 ⟨0, 0, 0, 0, 0, 0, 0, 0⟩) 78 (0, 0))
  b2 : wr.heap[w.heap.size + 2]? = some (.cells (wordsV KK).toArray 92 (0, 0))
  b3 : wr.heap[w.heap.size + 3]? = some (.cells C 92 (0, 0))
  size : wr.heap.size = w.heap.size + 4
  below : Below w.heap.size w wr

structure Rnd1 (w wr : World) (h : S8) : Prop where
  b0 : wr.heap[w.heap.size]? = some (.cells (cells8 h) 78 (0, 0))
  b1 : wr.heap[w.heap.size + 1]? = some (.cells (cells8 ⟨0, 0, 0, 0, 0, 0, 0, 0⟩) 78 (0, 0))
  b2 : wr.heap[w.heap.size + 2]? = some (.cells (wordsV KK).toArray 92 (0, 0))
  size : wr.heap.size = w.heap.size + 3
  below : Below w.heap.size w wr

theorem info64 : (Try.prog.info? 92).map (·.size) = some 64 := by kernel_rfl
theorem wordsV_length (l : List UInt32) : (wordsV l).length = l.length := by simp [wordsV]
theorem wordsV_oneCell (l : List UInt32) : (wordsV l).toArray.all (·.oneCell') = true := by
  refine all_oneCell_toArray fun v hv => ?_
  simp only [wordsV, List.mem_map] at hv
  obtain ⟨x, _, rfl⟩ := hv
  rfl
theorem KK_length : KK.length = 64 := rfl

theorem rnd1_of (w : World) (h : S8) (Z : Array Value) (w' : World)
    (hg : ((((w.alloc (.cells (cells8 h) 78)).alloc (.cells (cells8 ⟨0, 0, 0, 0, 0, 0, 0, 0⟩) 78)).alloc (.cells Z 92))).grownBy w' (some (w.heap.size + 1 + 1)))
    (hs : w'.heap.size = w.heap.size + 1 + 1 + 1)
    (hb : w'.heap[w.heap.size + 1 + 1]? = some (.cells (wordsV KK).toArray 92 (0, 0))) : Rnd1 w w' h := by
  have h0 : (((w.alloc (.cells (cells8 h) 78)).alloc (.cells (cells8 ⟨0, 0, 0, 0, 0, 0, 0, 0⟩) 78)).alloc (.cells Z 92)).heap[w.heap.size]? = some (.cells (cells8 h) 78 (0, 0)) := by
    rw [Below.heap_alloc _ _ _ (by simp; omega), Below.heap_alloc _ _ _ (by simp)]; exact heap_alloc_new _ _
  have h1 : (((w.alloc (.cells (cells8 h) 78)).alloc (.cells (cells8 ⟨0, 0, 0, 0, 0, 0, 0, 0⟩) 78)).alloc (.cells Z 92)).heap[w.heap.size + 1]? = some (.cells (cells8 ⟨0, 0, 0, 0, 0, 0, 0, 0⟩) 78 (0, 0)) := by
    rw [Below.heap_alloc _ _ _ (by simp)]; simpa using heap_alloc_new (w.alloc (.cells (cells8 h) 78)) _
  refine ⟨(hg.block _ (by first | (simp; done) | (simp; omega)) (fun e => by have := Option.some.inj e; omega)).trans h0, (hg.block _ (by first | (simp; done) | (simp; omega)) (fun e => by have := Option.some.inj e; omega)).trans h1, hb, hs, ?_⟩
  exact below_gb (B := w.heap.size) ((((Below.refl _ _).alloc (Nat.le_refl _) _).alloc (by simp) _).alloc (by rw [World.size_alloc, World.size_alloc]; omega) _) (by rw [World.size_alloc, World.size_alloc, World.size_alloc]; omega) hg (by omega)

theorem Rnd1.next {w wr : World} {h : S8} (hr : Rnd1 w wr h) (C : Array Value) : Rnd w (wr.alloc (.cells C 92)) h C :=
  ⟨heap_old' hr.b0, heap_old' hr.b1, heap_old' hr.b2, heap_new' _ _ _ hr.size, by simp [hr.size], hr.below.alloc (by rw [hr.size]; omega) _⟩

theorem Rnd.set {w wr : World} {h : S8} {C : Array Value} (hr : Rnd w wr h C) (k : Nat) (v : Value) : Rnd w (wr.setCell ⟨w.heap.size + 3, k, none⟩ v).drew h (C.setIfInBounds k v) := by
  have hs : ∀ j, j ≠ w.heap.size + 3 → (wr.setCell ⟨w.heap.size + 3, k, none⟩ v).drew.heap[j]? = wr.heap[j]? := fun j hj => by
    simp only [World.drew, World.setCell, Array.getElem?_modify]
    rw [if_neg (fun e => hj e.symm)]
  refine ⟨(hs _ (by omega)).trans hr.b0, (hs _ (by omega)).trans hr.b1, (hs _ (by omega)).trans hr.b2, heap_set hr.b3 k v, ?_, (hr.below.setCell (p := ⟨w.heap.size + 3, k, none⟩) (by show w.heap.size ≤ w.heap.size + 3; omega) v).drew⟩
  simp [World.drew, World.setCell, hr.size]
theorem Rnd.drew {w wr : World} {h : S8} {C : Array Value} (hr : Rnd w wr h C) : Rnd w wr.drew h C := ⟨hr.b0, hr.b1, hr.b2, hr.b3, hr.size, hr.below.drew⟩
theorem Rnd.drewN {w wr : World} {h : S8} {C : Array Value} (hr : Rnd w wr h C) (n : Nat) : Rnd w (wr.drewN n) h C := ⟨hr.b0, hr.b1, hr.b2, hr.b3, hr.size, below_drewN hr.below n⟩
theorem wordsV_get {l : List UInt32} (i : Nat) (h : i < l.length) : (wordsV l).toArray[i]? = some (.int .u32 (V (l.getD i 0))) := by
  simp [wordsV, h]
/-- The worlds of the third loop: block B + 4 the words at hand. -/
structure Rnd2 (w wr : World) (h : S8) (C : Array Value) (v : S8) : Prop where
  b0 : wr.heap[w.heap.size]? = some (.cells (cells8 h) 78 (0, 0))
  b1 : wr.heap[w.heap.size + 1]? = some (.cells (cells8 ⟨0, 0, 0, 0, 0, 0, 0, 0⟩) 78 (0, 0))
  b2 : wr.heap[w.heap.size + 2]? = some (.cells (wordsV KK).toArray 92 (0, 0))
  b3 : wr.heap[w.heap.size + 3]? = some (.cells C 92 (0, 0))
  b4 : wr.heap[w.heap.size + 4]? = some (.cells (cells8 v) 78 (0, 0))
  below : Below w.heap.size w wr
theorem Rnd.next {w wr : World} {h : S8} {C : Array Value} (hr : Rnd w wr h C) (v : S8) : Rnd2 w (wr.alloc (.cells (cells8 v) 78)) h C v :=
  ⟨heap_old' hr.b0, heap_old' hr.b1, heap_old' hr.b2, heap_old' hr.b3, heap_new' _ _ _ hr.size, hr.below.alloc (by rw [hr.size]; omega) _⟩
theorem Rnd2.drewN {w wr : World} {h v : S8} {C : Array Value} (hr : Rnd2 w wr h C v) (n : Nat) : Rnd2 w (wr.drewN n) h C v := ⟨hr.b0, hr.b1, hr.b2, hr.b3, hr.b4, below_drewN hr.below n⟩
theorem Rnd2.facts {w wr : World} {h : S8} {C : Array Value} {va vb vc vd ve vf vg vh : UInt32} (hr : Rnd2 w wr h C ⟨va, vb, vc, vd, ve, vf, vg, vh⟩) :
    wr.cell? ⟨w.heap.size + 1 + 1 + 1 + 1, 0, none⟩ = some (.int .u32 (V va)) ∧ wr.cell? ⟨w.heap.size + 1 + 1 + 1 + 1, 1, none⟩ = some (.int .u32 (V vb)) ∧
    wr.cell? ⟨w.heap.size + 1 + 1 + 1 + 1, 2, none⟩ = some (.int .u32 (V vc)) ∧ wr.cell? ⟨w.heap.size + 1 + 1 + 1 + 1, 3, none⟩ = some (.int .u32 (V vd)) ∧
    wr.cell? ⟨w.heap.size + 1 + 1 + 1 + 1, 4, none⟩ = some (.int .u32 (V ve)) ∧ wr.cell? ⟨w.heap.size + 1 + 1 + 1 + 1, 5, none⟩ = some (.int .u32 (V vf)) ∧
    wr.cell? ⟨w.heap.size + 1 + 1 + 1 + 1, 6, none⟩ = some (.int .u32 (V vg)) ∧ wr.cell? ⟨w.heap.size + 1 + 1 + 1 + 1, 7, none⟩ = some (.int .u32 (V vh)) := by
  refine ⟨?_, ?_, ?_, ?_, ?_, ?_, ?_, ?_⟩ <;> (rw [cell_of_row wr (w.heap.size + 1 + 1 + 1 + 1) _ _ 78 (0, 0) hr.b4]; rfl)
theorem Rnd2.all {w wr : World} {h : S8} {C : Array Value} {b : List UInt8} {v : S8} (hr : Rnd2 w wr h C v) (hC : ∀ j, j < 64 → C[j]? = some (.int .u32 (V (WW b j)))) (i : Nat) (hi : i < 64) :
    wr.cell? ⟨w.heap.size + 1 + 1 + 1, i, none⟩ = some (.int .u32 (V (WW b i))) ∧ wr.cell? ⟨w.heap.size + 1 + 1, i, none⟩ = some (.int .u32 (V (KK.getD i 0))) ∧
    wr.cell? ⟨w.heap.size + 1 + 1 + 1 + 1, 0, none⟩ = some (.int .u32 (V v.a)) ∧ wr.cell? ⟨w.heap.size + 1 + 1 + 1 + 1, 1, none⟩ = some (.int .u32 (V v.b)) ∧
    wr.cell? ⟨w.heap.size + 1 + 1 + 1 + 1, 2, none⟩ = some (.int .u32 (V v.c)) ∧ wr.cell? ⟨w.heap.size + 1 + 1 + 1 + 1, 3, none⟩ = some (.int .u32 (V v.d)) ∧
    wr.cell? ⟨w.heap.size + 1 + 1 + 1 + 1, 4, none⟩ = some (.int .u32 (V v.e)) ∧ wr.cell? ⟨w.heap.size + 1 + 1 + 1 + 1, 5, none⟩ = some (.int .u32 (V v.f)) ∧
    wr.cell? ⟨w.heap.size + 1 + 1 + 1 + 1, 6, none⟩ = some (.int .u32 (V v.g)) ∧ wr.cell? ⟨w.heap.size + 1 + 1 + 1 + 1, 7, none⟩ = some (.int .u32 (V v.h)) :=
  ⟨by rw [cell_of_row wr (w.heap.size + 1 + 1 + 1) i C 92 (0, 0) hr.b3]; exact hC i hi,
   by rw [cell_of_row wr (w.heap.size + 1 + 1) i _ 92 (0, 0) hr.b2]; exact wordsV_get i (by rw [KK_length]; exact hi), Rnd2.facts hr⟩
theorem Rnd2.put {w wr w' : World} {h v : S8} {C : Array Value} (hr : Rnd2 w wr h C v) (hg : wr.grownBy w' (some (w.heap.size + 4))) (u : S8) (hb : w'.heap[w.heap.size + 4]? = some (.cells (cells8 u) 78 (0, 0))) : Rnd2 w w' h C u := by
  have hs : ∀ j x, j ≠ w.heap.size + 4 → wr.heap[j]? = some x → w'.heap[j]? = some x := fun j x hj hx => (hg.block j (Array.getElem?_eq_some_iff.1 hx).1 (fun e => hj (Option.some.inj e))).trans hx
  exact ⟨hs _ _ (by omega) hr.b0, hs _ _ (by omega) hr.b1, hs _ _ (by omega) hr.b2, hs _ _ (by omega) hr.b3, hb, below_gb hr.below hr.below.size hg (by omega)⟩
theorem info8 : (Try.prog.info? 78).map (·.size) = some 8 := by kernel_rfl
theorem cells8_size (v : S8) : (cells8 v).size = 8 := rfl
theorem oneCell8 (v : S8) : ∀ (i : Nat) (h : i < (cells8 v).size), (cells8 v)[i].oneCell' = true := by
  intro i h
  have h8 : i < 8 := h
  match i, h8 with
  | 0, _ => rfl
  | 1, _ => rfl
  | 2, _ => rfl
  | 3, _ => rfl
  | 4, _ => rfl
  | 5, _ => rfl
  | 6, _ => rfl
  | 7, _ => rfl
  | j + 8, h => omega
theorem cells8_step (a b c d e f g h k x : UInt32) : #[Value.int .u32 (V (h + (rotr e 6 ^^^ rotr e 11 ^^^ rotr e 25) + (e &&& f ^^^ ~~~e &&& g) + k + x + ((rotr a 2 ^^^ rotr a 13 ^^^ rotr a 22) + (a &&& b ^^^ a &&& c ^^^ b &&& c)))), .int .u32 (V a), .int .u32 (V b), .int .u32 (V c),
    .int .u32 (V (d + (h + (rotr e 6 ^^^ rotr e 11 ^^^ rotr e 25) + (e &&& f ^^^ ~~~e &&& g) + k + x))), .int .u32 (V e), .int .u32 (V f), .int .u32 (V g)] = cells8 (Plain.step ⟨a, b, c, d, e, f, g, h⟩ k x) := by
  unfold cells8 Plain.step Sig0 Sig1 ch maj
  rfl
theorem set_get {C : Array Value} {k : Nat} {v : Value} {P : Nat → Value} (hk : k < C.size) (hv : v = P k) (h : ∀ j, j < k → C[j]? = some (P j)) : ∀ j, j < k + 1 → (C.setIfInBounds k v)[j]? = some (P j) := by
  intro j hj
  by_cases e : j = k
  · subst e; rw [Array.getElem?_setIfInBounds_self_of_lt hk, hv]
  · rw [Array.getElem?_setIfInBounds_ne (Ne.symm e)]; exact h j (by omega)

/-- the j-th of the eight -/
def at8 (v : S8) (j : Nat) : UInt32 := match j with | 0 => v.a | 1 => v.b | 2 => v.c | 3 => v.d | 4 => v.e | 5 => v.f | 6 => v.g | _ => v.h
theorem cells8_get (v : S8) (j : Nat) (h : j < 8) : (cells8 v)[j]? = some (.int .u32 (V (at8 v j))) := by
  match j, h with
  | 0, _ => rfl
  | 1, _ => rfl
  | 2, _ => rfl
  | 3, _ => rfl
  | 4, _ => rfl
  | 5, _ => rfl
  | 6, _ => rfl
  | 7, _ => rfl
  | j + 8, h => omega
theorem at8_add (v h : S8) (j : Nat) : at8 (add8 v h) j = at8 v j + at8 h j := by
  unfold at8 add8
  split <;> rfl
theorem cells8_ext (D : Array Value) (v : S8) (hD : D.size = 8) (h : ∀ j, j < 8 → D[j]? = some (.int .u32 (V (at8 v j)))) : D = cells8 v := by
  apply Array.ext_getElem?
  intro i
  by_cases hi : i < 8
  · rw [h i hi, cells8_get v i hi]
  · rw [Array.getElem?_eq_none (by omega), Array.getElem?_eq_none (by show 8 ≤ i; omega)]
/-- The worlds of the fourth loop. -/
structure Rnd3 (w wr : World) (h : S8) (D : Array Value) : Prop where
  b0 : wr.heap[w.heap.size]? = some (.cells (cells8 h) 78 (0, 0))
  b1 : wr.heap[w.heap.size + 1]? = some (.cells (cells8 ⟨0, 0, 0, 0, 0, 0, 0, 0⟩) 78 (0, 0))
  b4 : wr.heap[w.heap.size + 4]? = some (.cells D 78 (0, 0))
  below : Below w.heap.size w wr
theorem Rnd2.last {w wr : World} {h v : S8} {C : Array Value} (hr : Rnd2 w wr h C v) : Rnd3 w wr h (cells8 v) := ⟨hr.b0, hr.b1, hr.b4, hr.below⟩
theorem Rnd3.drew {w wr : World} {h : S8} {D : Array Value} (hr : Rnd3 w wr h D) : Rnd3 w wr.drew h D := ⟨hr.b0, hr.b1, hr.b4, hr.below.drew⟩
theorem Rnd3.set {w wr : World} {h : S8} {D : Array Value} (hr : Rnd3 w wr h D) (k : Nat) (x : Value) : Rnd3 w (wr.setCell ⟨w.heap.size + 4, k, none⟩ x) h (D.setIfInBounds k x) :=
  ⟨(heap_set_ne' (by omega) k x).trans hr.b0, (heap_set_ne' (by omega) k x).trans hr.b1, heap_set hr.b4 k x, hr.below.setCell (p := ⟨w.heap.size + 4, k, none⟩) (by show w.heap.size ≤ w.heap.size + 4; omega) x⟩
theorem add8_step {D : Array Value} {v h : S8} {n : Nat} (hn : n < 8) (hD : D.size = 8) (hA : ∀ j, j < 8 → D[j]? = some (.int .u32 (V (if j < n then at8 v j + at8 h j else at8 v j)))) :
    ∀ j, j < 8 → (D.setIfInBounds n (.int .u32 (V (at8 v n + at8 h n))))[j]? = some (.int .u32 (V (if j < n + 1 then at8 v j + at8 h j else at8 v j))) := by
  intro j hj
  by_cases e : j = n
  · subst e; rw [Array.getElem?_setIfInBounds_self_of_lt (by omega), if_pos (by omega)]
  · rw [Array.getElem?_setIfInBounds_ne (Ne.symm e), hA j hj]
    by_cases h2 : j < n
    · rw [if_pos h2, if_pos (by omega)]
    · rw [if_neg h2, if_neg (by omega)]

set_option maxRecDepth 100000 in
set_option maxHeartbeats 4000000 in
theorem round_any (h : S8) (b : List UInt8) (w : World) (hb : b.length = 64) :
    Calls Try.prog 29 #[.agg (cells8 h), .string ⟨b.toArray⟩] w (Ret w (.agg (cells8 (round h b)))) := by
  have hlen : (64 : Int) ≤ b.length := by omega
  have hlen2 : (b.length : Int) ≤ 64 := by omega
  unfold cells8
  go_enter Try.func29, Try.ntmps29
  go_upto_region 1 with (fail)
  go_cut [5] (fun s5 wx => s5 = .pointer (some ⟨w.heap.size + 1 + 1, 0, none⟩) ∧ Rnd1 w wx h)
  case first =>
    go_wp2_with (refine wpList_store_row rfl 92 _ _ rfl (w.heap.size + 1 + 1) (wordsV KK).toArray ?C 92 rfl ?hy ?hg ?hC info64 (wordsV_oneCell _) ?_)
    case hy => kernel_rfl
    case hg =>
      refine heap_new' _ _ _ ?_
      simp
    case hC => rfl
    intro w2 hg2 hs2 hb2
    have hr := rnd1_of w h _ w2 hg2 hs2 hb2
    clear hg2 hs2 hb2
    go_wp2_with (fail)
    go_meet
    exact ⟨rfl, hr⟩
  case rest =>
    obtain ⟨rfl, hr1⟩ := hcut
    have hsz := hr1.size
    have Hr1 := Lib.hid hr1
    have HS := Lib.hid hsz
    clear hr1 hsz
    go_upto_region 2 with (fail)
    go_cut [6] (fun s6 wx => s6 = .pointer (some ⟨w.heap.size + 1 + 1 + 1, 0, none⟩) ∧ ∃ C, C.size = 64 ∧ Rnd w wx h C)
    case first =>
      go_wp2_with (fail)
      go_meet
      refine ⟨by rw [HS.out], _, ?_, Hr1.out.next _⟩
      rfl
    case rest =>
      obtain ⟨rfl, C0, hC0, hr0⟩ := hcut
      have HR0 := Lib.hid hr0
      clear hr0
      go_wp2_with (fail)
      go_loopw [7, 21] (fun _ t21 wr => ∃ (k : Nat) (C : Array Value), k ≤ 16 ∧ t21 = .int .i64 k ∧ C.size = 64 ∧ Rnd w wr h C ∧ ∀ j, j < k → C[j]? = some (.int .u32 (V (wordAt b j)))) (fun _ t21 _ => 16 - (intOf t21).toNat)
      case atStart => exact ⟨0, C0, by omega, rfl, hC0, HR0.out, fun j hj => by omega⟩
      case round =>
        obtain ⟨k, C, hk, rfl, hC, hr, hT⟩ := hrel
        by_cases hlt : k < 16
        · have HT := Lib.hid hT
          have HR := Lib.hid hr
          clear hT hr hC0 HR0
          go_wp2_with (fail)
          have hi0 : 4 * k < b.length := by omega
          have hi1 : 4 * k + 1 < b.length := by omega
          have hi2 : 4 * k + 2 < b.length := by omega
          have hi3 : 4 * k + 3 < b.length := by omega
          have hk0 : (0 : Int) ≤ k := by omega
          have hfz : wr.frozen? ⟨w.heap.size + 1 + 1 + 1, k, none⟩ = false := frozen_of_row wr _ k C 92 HR.out.b3
          have hce : wr.cell? ⟨w.heap.size + 1 + 1 + 1, k, none⟩ = some (C[k]'(by omega)) := by
            rw [cell_of_row wr (w.heap.size + 1 + 1 + 1) k C 92 (0, 0) HR.out.b3]; exact Array.getElem?_eq_getElem (by omega)
          have hk64 : (k : Int) < 64 := by omega
          have e0 : IntKind.i64.wrap (4 * (k : Int)) = 4 * (k : Int) := IntWalk.i64_in _ (by omega)
          have e1 : IntKind.i64.wrap (4 * (k : Int) + 1) = 4 * (k : Int) + 1 := IntWalk.i64_in _ (by omega)
          have e2 : IntKind.i64.wrap (4 * (k : Int) + 2) = 4 * (k : Int) + 2 := IntWalk.i64_in _ (by omega)
          have e3 : IntKind.i64.wrap (4 * (k : Int) + 3) = 4 * (k : Int) + 3 := IntWalk.i64_in _ (by omega)
          have n0 : (4 * (k : Int)).toNat = 4 * k := by omega
          have n1 : (4 * (k : Int) + 1).toNat = 4 * k + 1 := by omega
          have n2 : (4 * (k : Int) + 2).toNat = 4 * k + 2 := by omega
          have n3 : (4 * (k : Int) + 3).toNat = 4 * k + 3 := by omega
          have p0 : 0 ≤ (4 * (k : Int)) := by omega
          have p1 : 0 ≤ (4 * (k : Int) + 1) := by omega
          have p2 : 0 ≤ (4 * (k : Int) + 2) := by omega
          have p3 : 0 ≤ (4 * (k : Int) + 3) := by omega
          have q0 : 4 * (k : Int) < 64 := by omega
          have q1 : 4 * (k : Int) + 1 < 64 := by omega
          have q2 : 4 * (k : Int) + 2 < 64 := by omega
          have q3 : 4 * (k : Int) + 3 < 64 := by omega
          have HW := Lib.hid (word_go (b[4 * k]) (b[4 * k + 1]) (b[4 * k + 2]) (b[4 * k + 3]))
          have HE := Lib.hid (wordAt_eq b k hi3)
          have HC := Lib.hid hC
          go_region
          clear e0 e1 e2 e3 hce hfz
          go_wp2_with (fail)
          go_roundw
          case rel =>
            refine ⟨k + 1, _, by omega, by go_num, ?_, HR.out.set k _, set_get (by have := HC.out; omega) ?_ HT.out⟩
            · simpa using HC.out
            · rw [HE.out, ← HW.out]
          case measure => simp [intOf]; omega
        · have hT16 : ∀ j, j < 16 → C[j]? = some (.int .u32 (V (WW b j))) := fun j hj => by rw [WW_first b hj]; exact hT j (by omega)
          have HT := Lib.hid hT16
          have HR := Lib.hid hr
          have HC := Lib.hid hC
          clear hT hT16 hr hC hC0 HR0
          go_wp2_with (fail)
          go_loopw [8, 9, 10, 11, 12] (fun t8 _ _ _ _ wr => ∃ (n : Nat) (C : Array Value), 16 ≤ n ∧ n ≤ 64 ∧ t8 = .int .i64 n ∧ Hid (C.size = 64) ∧ Hid (Rnd w wr h C) ∧ Hid (∀ j, j < n → C[j]? = some (.int .u32 (V (WW b j))))) (fun t8 _ _ _ _ _ => 64 - (intOf t8).toNat)
          case atStart => exact ⟨16, C, by omega, by omega, rfl, HC, HR, HT⟩
          case round =>
            clear HC HR HT C
            obtain ⟨n, C, hn1, hn2, rfl, HC, HR, HT⟩ := hrel
            by_cases hlt : n < 64
            · have hcell : ∀ j, j < n → wr.cell? ⟨w.heap.size + 1 + 1 + 1, j, none⟩ = some (Value.int .u32 (V (WW b j))) := fun j hj => by
                rw [cell_of_row wr (w.heap.size + 1 + 1 + 1) j C 92 (0, 0) HR.out.b3]; exact HT.out j hj
              have c15 := hcell (n - 15) (by omega)
              have c2 := hcell (n - 2) (by omega)
              have c16 := hcell (n - 16) (by omega)
              have c7 := hcell (n - 7) (by omega)
              have hfz : wr.frozen? ⟨w.heap.size + 1 + 1 + 1, n, none⟩ = false := frozen_of_row wr _ n C 92 HR.out.b3
              obtain ⟨v0, hce⟩ : ∃ v0, wr.cell? ⟨w.heap.size + 1 + 1 + 1, n, none⟩ = some v0 := by
                have hC := HC.out
                refine ⟨C[n]'(by omega), ?_⟩
                rw [cell_of_row wr (w.heap.size + 1 + 1 + 1) n C 92 (0, 0) HR.out.b3]; exact Array.getElem?_eq_getElem (by omega)
              clear hcell
              have e15 : IntKind.i64.wrap ((n : Int) - 15) = (n : Int) - 15 := IntWalk.i64_in _ (by omega)
              have e2 : IntKind.i64.wrap ((n : Int) - 2) = (n : Int) - 2 := IntWalk.i64_in _ (by omega)
              have e16 : IntKind.i64.wrap ((n : Int) - 16) = (n : Int) - 16 := IntWalk.i64_in _ (by omega)
              have e7 : IntKind.i64.wrap ((n : Int) - 7) = (n : Int) - 7 := IntWalk.i64_in _ (by omega)
              have n15 : ((n : Int) - 15).toNat = n - 15 := by omega
              have n2 : ((n : Int) - 2).toNat = n - 2 := by omega
              have n16 : ((n : Int) - 16).toNat = n - 16 := by omega
              have n7 : ((n : Int) - 7).toNat = n - 7 := by omega
              have p15 : 0 ≤ ((n : Int) - 15) := by omega
              have p2 : 0 ≤ ((n : Int) - 2) := by omega
              have p16 : 0 ≤ ((n : Int) - 16) := by omega
              have p7 : 0 ≤ ((n : Int) - 7) := by omega
              have q15 : ((n : Int) - 15) < 64 := by omega
              have q2 : ((n : Int) - 2) < 64 := by omega
              have q16 : ((n : Int) - 16) < 64 := by omega
              have q7 : ((n : Int) - 7) < 64 := by omega
              have hn0 : (0 : Int) ≤ n := by omega
              have hn64 : (n : Int) < 64 := by omega
              go_wp2_with (fail)
              go_region
              go_wp2_with (fail)
              refine (rotl_7 _ _).mono ?_
              rintro e w' ⟨rfl, rfl⟩
              go_wp2_with (fail)
              refine (rotl_18 _ _).mono ?_
              rintro e w' ⟨rfl, rfl⟩
              go_wp2_with (fail)
              refine (rotl_17 _ _).mono ?_
              rintro e w' ⟨rfl, rfl⟩
              go_wp2_with (fail)
              refine (rotl_19 _ _).mono ?_
              rintro e w' ⟨rfl, rfl⟩
              go_wp2_with (fail)
              go_region
              go_wp2_with (fail)
              go_roundw
              case rel =>
                refine ⟨n + 1, _, by omega, by omega, by go_num, ?_, Lib.hid (HR.out.set n _).drew, Lib.hid (set_get (by have := HC.out; omega) ?_ HT.out)⟩
                · exact Lib.hid (by simpa using HC.out)
                · rw [WW_next b hn1 hlt]; unfold sig0 sig1; rfl
              case measure => simp [intOf]; omega
            · have hT64 : ∀ j, j < 64 → C[j]? = some (.int .u32 (V (WW b j))) := fun j hj => HT.out j (by omega)
              have HT64 := Lib.hid hT64
              have hB := HR.out.b0
              unfold cells8 at hB
              have HB := Lib.hid hB
              clear hT64 HT hB
              have hz : wr.heap.size = w.heap.size + 1 + 1 + 1 + 1 := HR.out.size
              have HR2 := Lib.hid (HR.out.next h)
              clear HR
              go_wp2_with (refine wpList_load_row rfl 78 _ rfl w.heap.size rfl 78 _ (0, 0) _ HB.out Try.underlying78 rfl (by kernel_rfl) ?_)
              clear HB hz
              go_loopw [14, 15, 16, 17, 18, 100] (fun _ _ _ _ _ t100 wr => ∃ i : Nat, i ≤ 64 ∧ t100 = .int .i64 i ∧ Hid (Rnd2 w wr h C (runW (sched b 64) h i))) (fun _ _ _ _ _ t100 _ => 64 - (intOf t100).toNat)
              case atStart => exact ⟨0, by omega, rfl, HR2⟩
              case round =>
                clear HR2
                obtain ⟨i, hi, rfl, HR⟩ := hrel
                by_cases hlt : i < 64
                · have hstep : runW (sched b 64) h (i + 1) = Plain.step (runW (sched b 64) h i) (KK.getD i 0) (WW b i) := rfl
                  have hc := HR.out.all HT64.out i hlt
                  generalize hx : KK.getD i 0 = kx at *
                  generalize hy : WW b i = wx at *
                  generalize hv : runW (sched b 64) h i = v at *
                  have HS2 := Lib.hid hstep
                  have HX := Lib.hid hx
                  have HY := Lib.hid hy
                  clear hstep hx hy hv
                  obtain ⟨va, vb, vc, vd, ve, vf, vg, vh⟩ := v
                  obtain ⟨cw, ck, c0, c1, c2, c3, c4, c5, c6, c7⟩ := hc
                  have hi0 : (0 : Int) ≤ i := by omega
                  have hi64 : (i : Int) < 64 := by omega
                  go_wp2_with (fail)
                  go_quiet (fail)
                  go_wp2_with (fail)
                  have HR3 := Lib.hid (HR.out.drewN nq)
                  clear cw ck c0 c1 c2 c3 c4 c5 c6 c7 HR
                  generalize wr.drewN nq = w2 at *
                  have hc := HR3.out.all HT64.out i hlt
                  rw [HX.out, HY.out] at hc
                  obtain ⟨cw, ck, c0, c1, c2, c3, c4, c5, c6, c7⟩ := hc
                  refine wp_region_quiet_lit (by kernel_rfl) (by kernel_rfl) ?_
                  iterate 4 (go_big_quiet_step ((go_at_call 38; exact Calls.quiet_of_same (rotl_6 _ _))))
                  iterate 2 (go_big_quiet_step ((go_at_call 38; exact Calls.quiet_of_same (rotl_11 _ _))))
                  iterate 3 (go_big_quiet_step ((go_at_call 38; exact Calls.quiet_of_same (rotl_25 _ _))))
                  repeat (go_big_quiet_step (fail))
                  refine wpQuiet_nil ?_
                  rintro W ⟨nq2, rfl⟩
                  simp only [not_form, V_not, V_and, V_xor, V_add]
                  have HR4 := Lib.hid (HR3.out.drewN nq2)
                  clear cw ck c0 c1 c2 c3 c4 c5 c6 c7 HR3
                  generalize w2.drewN nq2 = w3 at HR4 ⊢
                  have hc := HR4.out.all HT64.out i hlt
                  obtain ⟨_, _, c0, c1, c2, c3, c4, c5, c6, c7⟩ := hc



                  go_wp2_with (fail)
                  refine wp_region_quiet_lit (by kernel_rfl) (by kernel_rfl) ?_
                  iterate 2 (go_big_quiet_step ((go_at_call 38; exact Calls.quiet_of_same (rotl_2 _ _))))
                  iterate 2 (go_big_quiet_step ((go_at_call 38; exact Calls.quiet_of_same (rotl_13 _ _))))
                  iterate 3 (go_big_quiet_step ((go_at_call 38; exact Calls.quiet_of_same (rotl_22 _ _))))
                  repeat (go_big_quiet_step (fail))
                  refine wpQuiet_nil ?_
                  rintro W ⟨nq3, rfl⟩
                  simp only [V_add]
                  have HR5 := Lib.hid (HR4.out.drewN nq3)
                  clear c0 c1 c2 c3 c4 c5 c6 c7 HR4
                  generalize w3.drewN nq3 = w4 at HR5 ⊢
                  have hc := HR5.out.all HT64.out i hlt
                  obtain ⟨_, _, c0, c1, c2, c3, c4, c5, c6, c7⟩ := hc

                  go_upto_region 22 with (fail)
                  have hB4 := HR5.out.b4
                  have HB4 := Lib.hid hB4
                  clear hB4
                  go_wp2_with (refine wpList_store_row rfl 78 _ _ rfl (w.heap.size + 1 + 1 + 1 + 1) ?cells4 ?C4 78 ?hx4 ?hy4 ?hg4 ?hC4 ?hi4 ?h14 ?_)
                  case C4 => exact cells8 ⟨va, vb, vc, vd, ve, vf, vg, vh⟩
                  case cells4 => exact cells8 (Plain.step ⟨va, vb, vc, vd, ve, vf, vg, vh⟩ kx wx)
                  case hy4 => exact cells8_step va vb vc vd ve vf vg vh kx wx
                  case hg4 => exact HB4.out
                  case hC4 => exact (cells8_size _).trans (cells8_size _).symm
                  case hi4 => exact Option.map_eq_some_iff.1 info8
                  case h14 => exact oneCell8 _
                  intro w5 hg5 hs5 hb5
                  have HR6 := Lib.hid (HR5.out.put hg5 _ hb5)
                  clear hg5 hs5 hb5 c0 c1 c2 c3 c4 c5 c6 c7
                  go_wp2_with (fail)
                  go_roundw
                  case rel => exact ⟨i + 1, by omega, by go_num, by rw [HS2.out]; exact HR6⟩
                  case measure => simp [intOf]; omega
                · have HF := Lib.hid (show Rnd3 w wr h (cells8 (runW (sched b 64) h 64)) by
                    have hr := HR.out.last
                    rwa [show i = 64 by omega] at hr)
                  have HRD : Hid (round h b = add8 (runW (sched b 64) h 64) h) := rfl
                  generalize hv : runW (sched b 64) h 64 = v at HF HRD
                  clear hv HR HT64
                  go_wp2_with (fail)
                  go_loopw [19, 182] (fun _ t182 wr => ∃ (n : Nat) (D : Array Value), n ≤ 8 ∧ t182 = .int .i64 n ∧ Hid (D.size = 8) ∧ Hid (Rnd3 w wr h D) ∧ Hid (∀ j, j < 8 → D[j]? = some (.int .u32 (V (if j < n then at8 v j + at8 h j else at8 v j))))) (fun _ t182 _ => 8 - (intOf t182).toNat)
                  case atStart => exact ⟨0, cells8 v, by omega, rfl, Lib.hid rfl, HF, Lib.hid (fun j hj => by rw [cells8_get v j hj, if_neg (by omega)])⟩
                  case round =>
                    clear HF
                    obtain ⟨m, D, hm, rfl, HD, HR, HA⟩ := hrel
                    by_cases hlt : m < 8
                    · have a0 : wr.cell? ⟨w.heap.size, m, none⟩ = some (Value.int .u32 (V (at8 h m))) := by
                        rw [cell_of_row wr (w.heap.size) m _ 78 (0, 0) HR.out.b0]; exact cells8_get h m hlt
                      have a4 : wr.cell? ⟨w.heap.size + 1 + 1 + 1 + 1, m, none⟩ = some (Value.int .u32 (V (at8 v m))) := by
                        rw [cell_of_row wr (w.heap.size + 1 + 1 + 1 + 1) m _ 78 (0, 0) HR.out.b4, HA.out m hlt, if_neg (by omega)]
                      have f4 : wr.frozen? ⟨w.heap.size + 1 + 1 + 1 + 1, m, none⟩ = false := frozen_of_row wr _ m D 78 HR.out.b4
                      have hm0 : (0 : Int) ≤ m := by omega
                      have hm8 : (m : Int) < 8 := by omega
                      go_wp2_with (fail)
                      go_region
                      go_wp2_with (fail)
                      exact ⟨⟨m + 1, _, by omega, by go_num, Lib.hid (by simpa using HD.out), Lib.hid (HR.out.set m _).drew, Lib.hid (add8_step hlt HD.out HA.out)⟩, by simp [intOf]; omega⟩
                    · have hDe : D = cells8 (round h b) := by
                        rw [HRD.out]
                        exact cells8_ext D _ HD.out (fun j hj => by rw [HA.out j hj, if_pos (by omega), at8_add])
                      subst hDe
                      have hB1 := HR.out.b1
                      have HB1 := Lib.hid hB1
                      have HB4 := Lib.hid HR.out.b4
                      clear hB1 HA HD
                      go_wp2_with (first | (refine wpList_load_row rfl 78 _ rfl (w.heap.size + 1 + 1 + 1 + 1) rfl 78 _ (0, 0) _ HB4.out Try.underlying78 rfl (by rw [cells8_size]; exact info8) ?_) | (refine wpList_store_row rfl 78 _ _ rfl (w.heap.size + 1) ?cells2 ?C2 78 ?hx2 ?hy2 ?hg2 ?hC2 ?hi2 ?h12 ?_))
                      case C2 => exact cells8 ⟨0, 0, 0, 0, 0, 0, 0, 0⟩
                      case cells2 => exact cells8 (round h b)
                      case hg2 => exact HB1.out
                      case hC2 => exact (cells8_size _).trans (cells8_size _).symm
                      case hi2 => rw [cells8_size]; exact info8
                      case h12 => exact Array.all_eq_true_iff_forall_mem.2 (fun x hx => by obtain ⟨i, hi, rfl⟩ := Array.mem_iff_getElem.1 hx; exact oneCell8 _ i hi)
                      case hy2 => rfl
                      intro w5 hg5 hs5 hb5
                      have hbelow := below_gb HR.out.below HR.out.below.size hg5 (by omega)
                      have HB5 := Lib.hid hb5
                      have HBe := Lib.hid hbelow
                      clear hg5 hs5 hb5 hbelow
                      go_wp2_with (fail)
                      refine bodyPost_ret (v := .agg (cells8 (round h b))) ?_ rfl ⟨rfl, HBe.out⟩
                      exact results_cell_row Try.results29 _ _ (w.heap.size + 1) 78 _ (0, 0) _ rfl HB5.out Try.underlying78 rfl (by rw [cells8_size]; exact info8)
end Go.Proofs.Ytgohhhfnffhgmaa
