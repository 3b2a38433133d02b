/- Texts joined: Lib, Lit1, Words, Two, AppendSlice, OwnM, Loads. -/
import Derived.Test.YtgppfcaghjbjmaaGreatDoorRows
import Derived.WalkKit
import Derived.WalkSpells
import Derived.WalkLawsBesides
import Derived.BigQuiet
import Derived.Lib.Hide
import Derived.Tactics
import Derived.Tactics2
import Derived.Defers
import Derived.Laws.Pointers
import Derived.Laws.LoneSync
import Derived.RegionTactic
import Derived.RegionCalls
import Derived.ChangeAlike
import Derived.Laws.OwnMore
import Derived.Deep.QuietTactic
import Derived.OwnWalk
import Derived.ArgAppend
import Derived.Deep.Upon
import Derived.Deep.MidRow
set_option linter.unusedSimpArgs false
set_option linter.unusedVariables false

/- General lemmas, over any program: a call that returns a value and leaves old memory as it was; a region that draws its order, at the class of the worlds that keep old memory. -/
section
namespace Go.Proofs.YtgppfcaghjbjmaaGreatDoor
open Go.RowKit

/-- The call returned v; old memory is as it was. -/
def Ret (w : World) (v : Value) (e : Ending) (w' : World) : Prop := e = .returned v ∧ Below w.heap.size w w'

theorem ret_int {k : IntKind} {a b : Int} (h : a = b) : Ending.returned (.int k a) = .returned (.int k b) := by rw [h]
theorem Ret.mk {w w' : World} {v : Value} (h : Below w.heap.size w w') : Ret w v (.returned v) w' := ⟨rfl, h⟩

theorem below_drewN {B : Nat} {a w : World} (h : Below B a w) (n : Nat) : Below B a (w.drewN n) := ⟨h.os, h.tape, h.output, h.size, h.block⟩

@[go_sem] theorem forall_below (w : World) (B : Nat) (p : Prop) : (∀ W, Below B w W → p) ↔ p := ⟨fun h => h w (Below.refl _ _), fun h _ _ => h⟩

theorem wp_region_below {P : Program} {id : Nat} {Q : Exit → Act → World → Prop} {a : Act} {w : World} {l : List Oper} (hm : P.follows .mixedOrders = true) (hB : Region.lexB .any l.toArray = true)
    (h : wpQuiet P l.toArray (fun W => Below w.heap.size w W) (fun a' => ∀ W, Below w.heap.size w W → Q .normal a' W) l a) : (Code.region id l.toArray true).wp P Q a w :=
  wp_region_quiet (C := fun W => Below w.heap.size w W) hm hB ⟨rfl, rfl, rfl, Nat.le_refl _, fun _ _ => rfl⟩ (by simpa using h)

/-- A byte of a string that is told by a list. -/
@[go_sem] theorem ba_get (l : List UInt8) (i : Nat) (h : i < (ByteArray.mk l.toArray).size) : (ByteArray.mk l.toArray)[i]'h = l[i]'(by simpa [ByteArray.size] using h) := rfl

@[go_sem] theorem ba_append (l m : List UInt8) : ByteArray.mk l.toArray ++ ByteArray.mk m.toArray = ByteArray.mk (l ++ m).toArray := by
  apply ByteArray.ext; simp

@[go_sem] theorem ba_extract (l : List UInt8) (a b : Nat) : (ByteArray.mk l.toArray).extract a b = ByteArray.mk ((l.drop a).take (b - a)).toArray := by
  apply ByteArray.ext; simp [List.extract]
@[go_sem] theorem take_rest (l : List UInt8) (a : Nat) : (l.drop a).take (l.length - a) = l.drop a := List.take_of_length_le (by simp)

/-- At a call in such a region. -/
theorem Ret.quiet {P : Program} {f : FuncId} {args : Array Value} {w W : World} {v : Value} (hW : Below w.heap.size w W) (h : Calls P f args W (Ret W v)) :
    Calls P f args W fun e w'' => e = .returned v ∧ Below w.heap.size w w'' :=
  h.mono fun _ _ ⟨he, hb⟩ => ⟨he, hW.trans (hb.mono hW.size)⟩

/-- A cell below, and its mark, behind a call: the two rules of the walk. -/
theorem bcell {W w1 : World} (hb : Below W.heap.size W w1) : (∀ b o, b < W.heap.size → w1.cell? ⟨b, o, none⟩ = W.cell? ⟨b, o, none⟩) ∧ (∀ b o, b < W.heap.size → w1.frozen? ⟨b, o, none⟩ = W.frozen? ⟨b, o, none⟩) :=
  ⟨fun b o h => hb.cell (p := ⟨b, o, none⟩) h, fun b o h => hb.frozen (p := ⟨b, o, none⟩) h⟩

/-- 'string(b)', b a block that has just been laid. -/
theorem run_convert_laid {P : Program} (w : World) (src e dst : TypeId) (hs : P.underlying src = some (.slice e)) (he : P.underlying e = some (.int .u8)) (hd : P.underlying dst = some .string) (xs : List Int) (n cap : Nat) (hn : n = xs.length) (m : Nat × Nat) :
    (convert src dst (.slice (some ⟨w.heap.size, 0, none⟩) n cap)).run P (w.alloc (.cells (xs.map (Value.int .u8)).toArray e m)) =
      .ok (.string ⟨(xs.map fun n => UInt8.ofNat n.toNat).toArray⟩) (w.alloc (.cells (xs.map (Value.int .u8)).toArray e m)) := by
  subst hn
  refine run_convert_bytes_arg _ src e hs he _ 0 _ cap xs rfl (fun i hi => ?_) dst hd
  have h := heap_alloc_new w (.cells (xs.map (Value.int .u8)).toArray e m)
  rw [Nat.zero_add, cell_of_row _ _ i _ e m h]
  simp [hi]

end Go.Proofs.YtgppfcaghjbjmaaGreatDoor
end

/- sync.Once at its first use, one goroutine, for a strings.Replacer: the lock, the two deferred calls. -/
section
set_option linter.unusedVariables false
namespace Go.Proofs.YtgppfcaghjbjmaaGreatDoor
open Go.RowKit

theorem disable (w : World) : (callFunc 96 #[]).run Tryz.prog w = .ok (.value (.tuple #[])) w := run_call_mark0 Tryz.func96 (by kernel_rfl) (by kernel_rfl) (by kernel_rfl) .disable (by kernel_rfl) w
theorem enable (w : World) : (callFunc 98 #[]).run Tryz.prog w = .ok (.value (.tuple #[])) w := run_call_mark0 Tryz.func98 (by kernel_rfl) (by kernel_rfl) (by kernel_rfl) .enable (by kernel_rfl) w
theorem acquire (a : Addr) (w : World) : (callFunc 99 #[.pointer (some a)]).run Tryz.prog w = .ok (.value (.tuple #[])) w := run_call_marked Tryz.func99 (by kernel_rfl) (by kernel_rfl) (by kernel_rfl) .acquire (by kernel_rfl) a w
theorem releaseMerge (a : Addr) (w : World) : (callFunc 101 #[.pointer (some a)]).run Tryz.prog w = .ok (.value (.tuple #[])) w := run_call_marked Tryz.func101 (by kernel_rfl) (by kernel_rfl) (by kernel_rfl) .releaseMerge (by kernel_rfl) a w

/-- The store of 'done', entered as a deferred call. -/
theorem store_deferred (a : Addr) (x : Value) (u : FrameMode) (w : World) (hc : w.cell? a = some x) (hz : w.frozen? a = false) :
    CallsD Tryz.prog 71 #[.pointer (some a), .bool true] u w fun e u' w' => u' = u ∧ (e = .returned (.tuple #[]) ∧ w' = w.drew.setCell a (.int .u32 1)) := by
  have hc' : w.drew.cell? a = some x := by go_simp
  have hz' : w.drew.frozen? a = false := by go_simp
  have hst := run_call_store (P := Tryz.prog) Tryz.func86 (by kernel_rfl) (by kernel_rfl) (by kernel_rfl) (by kernel_rfl) (k := .u32) (y := 1) hc' hz'
  go_enter_d Tryz.func71, Tryz.ntmps71
  go_wp2
  go_region_calls
  all_goals (go_end0; exact ⟨rfl, rfl⟩)

set_option maxRecDepth 100000 in
/-- The unlock, entered as a deferred call. -/
theorem unlock_deferred (a : Addr) (u : FrameMode) (w : World) (hc : w.cell? a = some (.int .i32 1)) (hz : w.frozen? a = false) :
    CallsD Tryz.prog 70 #[.pointer (some a)] u w fun e u' w' => u' = u ∧ (e = .returned (.tuple #[]) ∧ w' = w.setCell a (.int .i32 0)) := by
  have hd := disable
  have he := enable
  have hr := releaseMerge
  have hadd := run_call_add (P := Tryz.prog) Tryz.func102 (by kernel_rfl) (by kernel_rfl) (by kernel_rfl) .i32 (by kernel_rfl) (y := -1) (s := 0) hc hz (by simp [go_sem]; rfl)
  have hcv := run_convert_to_unsafe (P := Tryz.prog) (src := 132) (dst := 136) Tryz.underlying132 Tryz.underlying136 (by kernel_rfl) hc
  go_enter_d Tryz.func70, Tryz.ntmps70
  go_wp2
  go_end0
  go_wp2
  go_end0
  exact ⟨rfl, rfl⟩

set_option maxRecDepth 100000 in
/-- The lock, free. -/
theorem lock_free (a : Addr) (w : World) (hc : w.cell? a = some (.int .i32 0)) (hz : w.frozen? a = false) :
    Calls Tryz.prog 69 #[.pointer (some a)] w fun e w' => e = .returned (.tuple #[]) ∧ w' = w.setCell a (.int .i32 1) := by
  have hd := disable
  have he := enable
  have ha := acquire
  have hcas := run_call_cas_hit (P := Tryz.prog) Tryz.func97 (by kernel_rfl) (by kernel_rfl) (by kernel_rfl) .i32 (by kernel_rfl) (y := 1) hc hz
  have hc' : (w.setCell a (.int .i32 1)).cell? a = some (.int .i32 1) := World.cell?_setCell_same w a _ hc
  have hcv := run_convert_to_unsafe (P := Tryz.prog) (src := 132) (dst := 136) Tryz.underlying132 Tryz.underlying136 (by kernel_rfl) hc'
  go_enter Tryz.func69, Tryz.ntmps69
  go_wp2
  first | go_end0 | (simp only [Exit.inBlock, Exit.then]; refine bodyPost_ret (results_none rfl _ _ _) rfl ?_) | refine bodyPost_ret (results_none rfl _ _ _) rfl ?_
  go_wp2
  go_end0
  exact ⟨rfl, rfl⟩
end Go.Proofs.YtgppfcaghjbjmaaGreatDoor
end

/- Words for slices that read as lists. -/
section
namespace Go.Proofs.YtgppfcaghjbjmaaGreatDoor
open Go.RowKit

/-- The cells xs lie at A: n elements of 'size' cells each. -/
def Reads (w : World) (size : Nat) (A : Option Addr) (n : Nat) (xs : List Value) : Prop :=
  xs.length = n * size ∧ (0 < n → ∃ ad, A = some ad ∧ ∀ j u, xs[j]? = some u → w.cell? (ad.add j) = some u)

theorem block_of_add (a : Addr) (n : Nat) : (a.add n).block = a.block := by unfold Addr.add; split <;> rfl
theorem add_of_add (a : Addr) (i j : Nat) : (a.add i).add j = a.add (i + j) := by
  unfold Addr.add
  by_cases hi : i = 0 <;> by_cases hj : j = 0 <;> simp [hi, hj, Nat.add_assoc]

section
variable {w w' : World} {size n : Nat} {A : Option Addr} {xs : List Value}
theorem Reads.nil (w : World) (size : Nat) (A : Option Addr) : Reads w size A 0 [] := ⟨by simp, fun h => absurd h (by omega)⟩
theorem Reads.at_ {k : Nat} (h : Reads w 1 A n xs) (hk : k < n) : ∃ ad u, A = some ad ∧ xs[k]? = some u ∧ w.cell? (ad.add k) = some u := by
  obtain ⟨ad, e, hc⟩ := h.2 (by omega)
  have hl : k < xs.length := by have := h.1; omega
  exact ⟨ad, xs[k], e, List.getElem?_eq_getElem hl, hc k _ (List.getElem?_eq_getElem hl)⟩
theorem Reads.keep (h : Reads w size A n xs) (hk : ∀ p : Addr, p.block < w.heap.size → w'.cell? p = w.cell? p) : Reads w' size A n xs :=
  ⟨h.1, fun hn => by
    obtain ⟨ad, e, hc⟩ := h.2 hn
    exact ⟨ad, e, fun j u hu => (hk _ (World.block_lt_of_cell? _ _ (hc j u hu))).trans (hc j u hu)⟩⟩
theorem Reads.below (h : Reads w size A n xs) (hb : Below w.heap.size w w') : Reads w' size A n xs := h.keep fun _ hp => hb.cell hp
theorem Reads.cut (h : Reads w size A n xs) {k : Nat} (hk : k ≤ n) (B : Option Addr) (hB : k < n → B = A.map (·.add (k * size))) :
    Reads w size B (n - k) (xs.drop (k * size)) := by
  refine ⟨by rw [List.length_drop, h.1, Nat.sub_mul], fun hn => ?_⟩
  obtain ⟨ad, rfl, hcell⟩ := h.2 (by omega)
  refine ⟨ad.add (k * size), hB (by omega), fun j u hu => ?_⟩
  rw [add_of_add]
  exact hcell _ u (by rw [← hu, List.getElem?_drop])
theorem Reads.take (h : Reads w size A n xs) {k : Nat} (hk : k ≤ n) : Reads w size A k (xs.take (k * size)) := by
  have := Nat.mul_le_mul_right size hk
  refine ⟨by rw [List.length_take, h.1, Nat.min_eq_left this], fun hn => ?_⟩
  obtain ⟨ad, rfl, hcell⟩ := h.2 (by omega)
  refine ⟨ad, rfl, fun j u hu => hcell j u ?_⟩
  rw [List.getElem?_take] at hu
  split at hu
  · exact hu
  · cases hu
theorem Reads.of_own {base : Nat} {e : TypeId} {c : Nat} (h : w.ownsRow base e size (.slice A n c) n xs) : Reads w size A n xs := by
  refine ⟨h.1, fun hn => ?_⟩
  rcases h.2 with ⟨_, h0⟩ | ⟨g, cap, cur, hv, _⟩
  · omega
  · have hA : A = some ⟨g, 0, none⟩ := by injection hv
    subst hA
    exact ⟨_, rfl, h.cells (g := g) rfl⟩
end

/-- The slice value v reads as the cells xs. -/
def IsSlice (w : World) (size : Nat) (v : Value) (n : Nat) (xs : List Value) : Prop := ∃ A c, v = .slice A n c ∧ n ≤ c ∧ c ≤ maxLen ∧ Reads w size A n xs
theorem IsSlice.below {w w' : World} {size n : Nat} {v : Value} {xs : List Value} (h : IsSlice w size v n xs) (hb : Below w.heap.size w w') : IsSlice w' size v n xs := by
  obtain ⟨A, c, rfl, hc, hm, hr⟩ := h
  exact ⟨A, c, rfl, hc, hm, hr.below hb⟩
theorem IsSlice.of_own {w : World} {base : Nat} {e : TypeId} {size n : Nat} {v : Value} {xs : List Value} (h : w.ownsRow base e size v n xs) : IsSlice w size v n xs := by
  have h' := h
  rcases h.2 with ⟨rfl, rfl⟩ | ⟨g, cap, cur, rfl, _, _, hn, hc, _⟩
  · exact ⟨none, 0, rfl, Nat.le_refl _, Nat.zero_le _, Reads.of_own h'⟩
  · exact ⟨_, cap, rfl, hn, hc, Reads.of_own h'⟩

/-- '[]byte(s)': a new row whose first cells are the bytes. -/
theorem conv_bytes {P : Program} (w : World) (src dst e : TypeId) (hs : P.underlying src = some .string) (hd : P.underlying dst = some (.slice e)) (he : P.underlying e = some (.int .u8)) (l : List UInt8) :
    ∃ cap C m, (convert src dst (.string ⟨l.toArray⟩)).run P w = .ok (.slice (some ⟨w.heap.size, 0, none⟩) l.length cap) (w.alloc (.cells C e m)).drew ∧ l.length ≤ cap ∧ C.size = cap ∧ m = (cap, cap + 1) ∧
      ∀ j (h : j < l.length), C[j]? = some (.int .u8 (l[j].toNat : Int)) := by
  have h := run_bytes_of_string (P := P) w src dst e ⟨l.toArray⟩ hs hd he
  have hsz : (ByteArray.mk l.toArray).size = l.length := by simp [ByteArray.size]
  have hge := grownCap_ge w (ByteArray.mk l.toArray).size 0 e
  rw [hsz] at h hge
  have hsize : (bytesRow ⟨l.toArray⟩ (grownCap w l.length 0 e)).size = grownCap w l.length 0 e := by simp [bytesRow, hsz]; omega
  rw [hsize] at h
  refine ⟨grownCap w l.length 0 e, _, _, h, hge, hsize, rfl, fun j hj => ?_⟩
  unfold bytesRow
  rw [Array.getElem?_append_left (by simp; exact hj)]
  simp [hj]
/-- 'string(b)', b the head of a block whose first cells are the bytes. -/
theorem conv_back {P : Program} (w : World) (src dst e : TypeId) (hs : P.underlying src = some (.slice e)) (he : P.underlying e = some (.int .u8)) (hd : P.underlying dst = some .string) (l : List UInt8) (b n cap : Nat) (hn : n = l.length) (C : Array Value) (m : Nat × Nat)
    (hb : w.heap[b]? = some (.cells C e m)) (hC : ∀ j (h : j < l.length), C[j]? = some (.int .u8 (l[j].toNat : Int))) :
    (convert src dst (.slice (some ⟨b, 0, none⟩) n cap)).run P w = .ok (.string ⟨l.toArray⟩) w := by
  subst hn
  exact run_convert_bytes_back w src dst e ⟨b, 0, none⟩ cap l hs he hd (fun j hj => by
    rw [show (⟨b, 0, none⟩ : Addr).add j = ⟨b, j, none⟩ by unfold Addr.add; split <;> simp_all, cell_of_row _ _ _ C e m hb]
    exact hC j hj)
theorem heap_laid_set (w : World) (C : Array Value) (e : TypeId) (m : Nat × Nat) (k : Nat) (v : Value) : ((w.alloc (.cells C e m)).setCell ⟨w.heap.size, k, none⟩ v).heap[w.heap.size]? = some (.cells (C.setIfInBounds k v) e m) := by
  have hb := heap_alloc_new w (.cells C e m)
  simp only [World.setCell, Array.getElem?_modify, if_true, hb]
  rfl
theorem heap_set {W : World} {b : Nat} {C : Array Value} {e : TypeId} {m : Nat × Nat} (h : W.heap[b]? = some (.cells C e m)) (k : Nat) (v : Value) : (W.setCell ⟨b, k, none⟩ v).heap[b]? = some (.cells (C.setIfInBounds k v) e m) := by
  simp only [World.setCell, Array.getElem?_modify, if_true, h]
  rfl
/-- The cells of a row one of which has been written. -/
theorem bytes_set {C : Array Value} {s m : List UInt8} {f x : Nat} (hC : ∀ j (h : j < s.length), C[j]? = some (.int .u8 (s[j].toNat : Int))) (hf : f < s.length) (hx : x < 256) (hm : s.set f (UInt8.ofNat x) = m) :
    ∀ j (h : j < m.length), (C.setIfInBounds f (.int .u8 (x : Int)))[j]? = some (.int .u8 (m[j].toNat : Int)) := by
  subst hm
  intro j hj
  have hfC : f < C.size := (Array.getElem?_eq_some_iff.1 (hC f hf)).1
  by_cases hjk : j = f
  · subst hjk
    rw [Array.getElem?_setIfInBounds_self_of_lt hfC]
    simp [Nat.mod_eq_of_lt hx]
  · rw [Array.getElem?_setIfInBounds_ne (Ne.symm hjk)]
    simp only [List.getElem_set_ne (Ne.symm hjk)]
    exact hC j (by simpa using hj)
/-- The first cells of a row are the first bytes. -/
theorem bytes_take {C : Array Value} {s : List UInt8} (hC : ∀ j (h : j < s.length), C[j]? = some (.int .u8 (s[j].toNat : Int))) (k : Nat) :
    ∀ j (h : j < (s.take k).length), C[j]? = some (.int .u8 ((s.take k)[j].toNat : Int)) := by
  intro j hj
  rw [List.getElem_take]
  exact hC j (by simp at hj; omega)
theorem frozen_laid (w : World) (C : Array Value) (e : TypeId) (cap j : Nat) (h : j < cap) : (w.alloc (.cells C e (cap, cap + 1))).frozen? ⟨w.heap.size, j, none⟩ = false := by
  have hb := heap_alloc_new w (.cells C e (cap, cap + 1))
  unfold World.frozen?
  rw [hb]
  simp; omega

/-- The bytes of a text as cells. -/
def bytesV (l : List UInt8) : List Value := l.map fun b => .int .u8 (b.toNat : Int)
theorem bytesV_length (l : List UInt8) : (bytesV l).length = l.length := by simp [bytesV]
theorem bytesV_append (l m : List UInt8) : bytesV (l ++ m) = bytesV l ++ bytesV m := by simp [bytesV]
theorem bytesV_oneCell (l : List UInt8) : ∀ u ∈ bytesV l, u.oneCell' = true := by
  intro u hu
  simp only [bytesV, List.mem_map] at hu
  obtain ⟨s, _, rfl⟩ := hu
  rfl
/-- 'string(b)', b a row of the call's own (or nil). -/
theorem conv_own {P : Program} {w : World} {base : Nat} (src dst e : TypeId) (hs : P.underlying src = some (.slice e)) (he : P.underlying e = some (.int .u8)) (hd : P.underlying dst = some .string) {v : Value} {n : Nat} {l : List UInt8}
    (h : w.ownsRow base e 1 v n (bytesV l)) : (convert src dst v).run P w = .ok (.string ⟨l.toArray⟩) w := by
  have hn : n = l.length := by have := h.1; rw [bytesV_length] at this; omega
  rcases h.2 with ⟨rfl, h0⟩ | ⟨g, cap, cur, rfl, _, hg, _, _, _, ht⟩
  · rw [run_convert_bytes_nil w src e hs he 0 0 dst hd]
    have : l = [] := List.eq_nil_of_length_eq_zero (by omega)
    subst this
    rfl
  · refine conv_back w src dst e hs he hd l g n cap hn cur (0, 0) hg (fun j hj => ?_)
    have h1 : (bytesV l)[j]? = some (.int .u8 (l[j].toNat : Int)) := by simp [bytesV, hj]
    rw [← ht, List.getElem?_take] at h1
    split at h1
    · simpa using h1
    · cases h1

/-- A text as a value. -/
def strV (s : List UInt8) : Value := .string ⟨s.toArray⟩
def strs (l : List (List UInt8)) : List Value := l.map strV
theorem strs_get {l : List (List UInt8)} {k : Nat} (hk : k < l.length) : (strs l)[k]? = some (.string ⟨(l[k]).toArray⟩) := by
  simp [strs, strV, hk]
theorem strs_length (l : List (List UInt8)) : (strs l).length = l.length := by simp [strs]
theorem strs_take (l : List (List UInt8)) (k : Nat) : (strs l).take k = strs (l.take k) := by simp [strs, List.map_take]
theorem strs_drop (l : List (List UInt8)) (k : Nat) : (strs l).drop k = strs (l.drop k) := by simp [strs, List.map_drop]
theorem strs_append (l m : List (List UInt8)) : strs (l ++ m) = strs l ++ strs m := by simp [strs]
theorem strs_oneCell (l : List (List UInt8)) : ∀ u ∈ strs l, u.oneCell' = true := by
  intro u hu
  simp only [strs, List.mem_map] at hu
  obtain ⟨s, _, rfl⟩ := hu
  rfl

/-- The side goals of an append of one text that has just been laid. -/
theorem laid_one (w : World) (u : Value) (t : TypeId) : ∀ j v, [u][j]? = some v → (w.alloc (.cells #[u] t)).cell? ((⟨w.heap.size, 0, none⟩ : Addr).add j) = some v := by
  intro j v hj
  match j, hj with
  | 0, hj =>
    simp at hj
    subst hj
    rw [show (⟨w.heap.size, 0, none⟩ : Addr).add 0 = ⟨w.heap.size, 0, none⟩ by simp [Addr.add], cell_of_row _ _ _ #[u] t (0, 0) (heap_alloc_new w _)]
    rfl
theorem one_oneCell {u : Value} (h : u.oneCell' = true) : ∀ v ∈ [u], v.oneCell' = true := by
  intro v hv; simp at hv; subst hv; exact h

theorem own_below {w w' : World} {base : Nat} {e : TypeId} {size n : Nat} {v : Value} {xs : List Value} (h : w.ownsRow base e size v n xs) (hb : Below w.heap.size w w') : w'.ownsRow base e size v n xs :=
  h.kept (row := none) ⟨hb.os, hb.tape, hb.output, hb.size, fun k hk _ => hb.block k hk⟩ (by cases v.ownBlock <;> simp)
/-- Behind an append onto a row of the call's own. -/
theorem below_appended {a w w' : World} {B : Nat} {e : TypeId} {size n : Nat} {v : Value} {xs : List Value} (h : Below B a w) (hB : B ≤ w.heap.size) (hown : w.ownsRow B e size v n xs) (o : Obj)
    (hg : (w.alloc o).grownBy w' v.ownBlock) : Below B a w' :=
  (h.alloc hB o).grown hg (by simp; omega) (fun k hk => ((hown.alloc o).lt k hk).1)

/-! ### Only block b, and what is new, has turned -/
theorem gb_refl (w : World) (r : Option Nat) : w.grownBy w r := ⟨rfl, rfl, rfl, Nat.le_refl _, fun _ _ _ => rfl⟩
theorem gb_drewN {a w : World} {r : Option Nat} (h : a.grownBy w r) (n : Nat) : a.grownBy (w.drewN n) r := ⟨h.os, h.tape, h.output, h.size, h.block⟩
theorem gb_drew {a w : World} {r : Option Nat} (h : a.grownBy w r) : a.grownBy w.drew r := ⟨h.os, h.tape, h.output, h.size, h.block⟩
theorem gb_alloc {a w : World} {r : Option Nat} (h : a.grownBy w r) (o : Obj) : a.grownBy (w.alloc o) r :=
  ⟨h.os, h.tape, h.output, Nat.le_trans h.size (by simp), fun i hi hne => (Below.heap_alloc w o i (Nat.lt_of_lt_of_le hi h.size)).trans (h.block i hi hne)⟩
theorem gb_set {a w : World} {g : Nat} (h : a.grownBy w (some g)) {p : Addr} (hp : p.block = g ∨ a.heap.size ≤ p.block) (u : Value) : a.grownBy (w.setCell p u) (some g) :=
  ⟨h.os, h.tape, h.output, by simpa [World.setCell] using h.size, fun i hi hne => (Below.heap_setCell w p u i (by
    rintro rfl
    rcases hp with hp | hp
    · exact hne (by rw [hp])
    · omega)).trans (h.block i hi hne)⟩
theorem gb_below {a w w' : World} {r : Option Nat} (h : a.grownBy w r) (hb : Below w.heap.size w w') : a.grownBy w' r :=
  ⟨hb.os.trans h.os, hb.tape.trans h.tape, hb.output.trans h.output, Nat.le_trans h.size hb.size, fun i hi hne => (hb.block i (Nat.lt_of_lt_of_le hi h.size)).trans (h.block i hi hne)⟩
/-- a block of the call's own that is not below B may have turned -/
theorem below_gb {a w w' : World} {B g : Nat} (h : Below B a w) (hB : B ≤ w.heap.size) (hg : w.grownBy w' (some g)) (hBg : B ≤ g) : Below B a w' :=
  h.grown hg hB (fun k hk => by injection hk with hk; omega)
theorem own_gb {w w' : World} {base : Nat} {e : TypeId} {size n g : Nat} {v : Value} {xs : List Value} (h : w.ownsRow base e size v n xs) (hg : w.grownBy w' (some g)) (hlt : g < base) : w'.ownsRow base e size v n xs :=
  h.kept hg (by
    cases hv : v.ownBlock with
    | none => exact .inl rfl
    | some k => exact .inr (fun e => by injection e with e; have := (h.lt k hv).1; omega))

/-- v is a []string that reads as l. -/
def IsStrs (w : World) (v : Value) (l : List (List UInt8)) : Prop := IsSlice w 1 v l.length (strs l)
theorem IsStrs.below {w w' : World} {v : Value} {l : List (List UInt8)} (h : IsStrs w v l) (hb : Below w.heap.size w w') : IsStrs w' v l := IsSlice.below h hb

/-- What the walk asks of a []string: the address and the cell at an index. -/
theorem Reads.str_at {w : World} {A : Option Addr} {l : List (List UInt8)} {k : Nat} (h : Reads w 1 A l.length (strs l)) (hk : k < l.length) :
    ∃ ad, A = some ad ∧ w.cell? (ad.add k) = some (.string ⟨(l[k]).toArray⟩) := by
  obtain ⟨ad, u, hA, hu, hc⟩ := h.at_ hk
  rw [strs_get hk] at hu
  injection hu with hu
  exact ⟨ad, hA, by rw [hc, hu]⟩

theorem take_next {α : Type} {l m : List α} {k : Nat} (hl : k < l.length) (hm : k < m.length) (h : l.take k = m.take k) (he : l[k] = m[k]) : l.take (k + 1) = m.take (k + 1) := by
  rw [List.take_succ_eq_append_getElem hl, List.take_succ_eq_append_getElem hm, h, he]

end Go.Proofs.YtgppfcaghjbjmaaGreatDoor
end

/- Two slices of the call's own that grow side by side: append tells where its result lies. -/
section
namespace Go.Proofs.YtgppfcaghjbjmaaGreatDoor
open Go.RowKit

theorem own_base {w : World} {base base' : Nat} {e : TypeId} {size n : Nat} {v : Value} {xs : List Value} (h : w.ownsRow base e size v n xs) (hb : base' ≤ base) : w.ownsRow base' e size v n xs :=
  ⟨h.1, h.2.imp id fun ⟨g, cap, cur, hv, hg, hr⟩ => ⟨g, cap, cur, hv, Nat.le_trans hb hg, hr⟩⟩

/-- v' lies where v lay, or in a block that is new. -/
def Lies (w : World) (v v' : Value) : Prop := ∀ k, v'.ownBlock = some k → v.ownBlock = some k ∨ w.heap.size ≤ k
/-- no block holds both -/
def Apart (v u : Value) : Prop := ∀ k, v.ownBlock = some k → u.ownBlock ≠ some k
theorem Apart.symm {v u : Value} (h : Apart v u) : Apart u v := fun k hu hv => h k hv hu
theorem Apart.nil (u : Value) (n c : Nat) : Apart (.slice none n c) u := fun k h => by cases h
theorem Apart.lies {w : World} {v v' u : Value} {base : Nat} {e : TypeId} {size n : Nat} {xs : List Value} (h : Apart v u) (hl : Lies w v v') (hu : w.ownsRow base e size u n xs) : Apart v' u := by
  intro k hk he
  rcases hl k hk with h1 | h1
  · exact h k h1 he
  · have := (hu.lt k he).2; omega
theorem Apart.kept {w w' : World} {v u : Value} {base : Nat} {e : TypeId} {size n : Nat} {xs : List Value} (h : Apart v u) (hu : w.ownsRow base e size u n xs) (hg : w.grownBy w' v.ownBlock) : w'.ownsRow base e size u n xs :=
  hu.kept hg (by
    cases hv : u.ownBlock with
    | none => exact .inl rfl
    | some k => exact .inr (fun e => h k e.symm hv))

theorem wpList_append_two {P : Program} {w : World} {ops : Array Oper} {rest : List Oper} {o : Oper} {a : Act} {Q : Exit → Act → World → Prop} (hgd : o.guard = none) (s x : Operand) (t : TypeId)
    (ho : o.op = .call { callee := .builtin .append, args := #[s, x], argTypes := #[t, t] })
    (base : Nat) (e : TypeId) (i : TypeInfo) (z : Value) (size bytes : Nat) (ht : P.underlying t = some (.slice e)) (hi : P.info? e = some i) (hz : i.zero = some z)
    (hsize : i.size = size) (hby : i.bytes = bytes) (hzs : z.cells.size = size) (hsz : 0 < size)
    (v : Value) (n : Nat) (xs : List Value) (hs : a.eval s = v) (hown : w.ownsRow base e size v n xs)
    (ad : Addr) (m c : Nat) (news : List Value) (hx : a.eval x = .slice (some ad) m c) (hl : news.length = m * size) (hnews : ∀ j u, news[j]? = some u → w.cell? (ad.add j) = some u) (h1 : ∀ u ∈ news, u.oneCell' = true)
    (h63 : n + m ≤ maxLen) (hbytes : (n + m) * bytes ≤ 140737488355328) (hbase : base ≤ w.heap.size)
    (h : ∀ v' w', w'.ownsRow base e size v' (n + m) (xs ++ news) → w.grownBy w' v.ownBlock → Lies w v v' → wpList P ops Q rest (a.put o.dst v') w') : wpList P ops Q (o :: rest) a w := by
  rcases hown.2 with ⟨hv, hn⟩ | ⟨g, cap, cur, hv, hbg, hg, hnc, hcm, hcs, htake⟩
  · subst hv
    subst hn
    have hx0 : xs = [] := List.eq_nil_of_length_eq_zero (by simpa using hown.1)
    subst hx0
    exact wpList_append_own w hgd s x t ho w.heap.size e i z size bytes ht hi hz hsize hby hzs hsz _ _ _ hs (World.ownsRow_nil _ _ _ _) ad m c news hx hl hnews h1 h63 hbytes (Nat.le_refl _)
      fun v' w' h2 h3 _ => h v' w' (own_base h2 hbase) h3 (fun k hk => .inr (h2.lt k hk).1)
  · subst hv
    by_cases hroom : n + m ≤ cap
    · exact wpList_append_fits w hgd s x t ho base e i size ht hi hsize g n cap xs hs hown ad m c news hx hl hnews h1 hroom fun w' h2 h3 => h _ w' h2 h3 (fun k hk => .inl hk)
    · exact wpList_append_grows w hgd s x t ho e i z size bytes ht hi hz hsize hby hzs hsz (some ⟨g, 0, none⟩) n cap xs hs (fun e => by cases e) hown.1 (fun b hb j u hu => by
        injection hb with hb
        subst hb
        exact hown.cells (g := g) rfl j u hu) ad m c news hx hl hnews h1 (by omega) h63 hbytes
        fun v' w' h2 h3 => h v' w' (own_base h2 hbase) ⟨h3.os, h3.tape, h3.output, h3.size, fun k hk _ => h3.block k hk (by simp)⟩ (fun k hk => .inr (h2.lt k hk).1)
end Go.Proofs.YtgppfcaghjbjmaaGreatDoor
end

/- append(s, x...): a slice (it may be nil) behind a row of the call's own. -/
section
namespace Go.Proofs.YtgppfcaghjbjmaaGreatDoor
open Go.RowKit

theorem wpList_append_slice {P : Program} {w : World} {ops : Array Oper} {rest : List Oper} {o : Oper} {a : Act} {Q : Exit → Act → World → Prop} (hgd : o.guard = none) (s x : Operand) (t : TypeId)
    (ho : o.op = .call { callee := .builtin .append, args := #[s, x], argTypes := #[t, t] })
    (base : Nat) (e : TypeId) (i : TypeInfo) (z : Value) (size bytes : Nat) (ht : P.underlying t = some (.slice e)) (hi : P.info? e = some i) (hz : i.zero = some z)
    (hsize : i.size = size) (hby : i.bytes = bytes) (hzs : z.cells.size = size) (hsz : 0 < size)
    (A : Option Addr) (n cap : Nat) (xs : List Value) (hs : a.eval s = .slice A n cap) (hown : w.ownsRow base e size (.slice A n cap) n xs)
    (X : Option Addr) (m c : Nat) (news : List Value) (hx : a.eval x = .slice X m c) (hl : Reads w size X m news) (h1 : ∀ u ∈ news, u.oneCell' = true)
    (h63 : n + m ≤ maxLen) (hbytes : (n + m) * bytes ≤ 140737488355328) (hbase : base ≤ w.heap.size)
    (h : ∀ A' cap' w', w'.ownsRow base e size (.slice A' (n + m) cap') (n + m) (xs ++ news) → w.grownBy w' (Value.slice A n cap).ownBlock → wpList P ops Q rest (a.put o.dst (.slice A' (n + m) cap')) w') : wpList P ops Q (o :: rest) a w := by
  cases X with
  | none =>
    have hm : m = 0 := by
      rcases Nat.eq_zero_or_pos m with h0 | h0
      · exact h0
      · obtain ⟨ad, e, -⟩ := hl.2 h0; cases e
    subst hm
    have hn : news = [] := List.eq_nil_of_length_eq_zero (by have := hl.1; simpa using this)
    subst hn
    have hle : n ≤ cap := by
      rcases hown.2 with ⟨hv, h0⟩ | ⟨g, cp, cur, hv, _, _, hc, _⟩
      · omega
      · injection hv with h1 h2 h3; omega
    have hr := run_append_nothing w t t o.type e i ht hi A n cap hle (.slice none 0 c) (Src.ofNil w ht c)
    have h2 := h A cap w (by rw [List.append_nil]; exact hown) (gb_refl w _)
    refine wpList_plain hgd fun _ hK => ?_
    unfold Oper.wp execOp
    simp only [ho, resolve, invoke, builtin, Sem.run_bind, Sem.run_pure, Result.andThen_ok, List.map_toArray, List.map_cons, List.map_nil, hs, hx, hr]
    exact hK _ _ h2
  | some ad =>
    by_cases hm : 0 < m
    · obtain ⟨ad', e1, hc⟩ := hl.2 hm
      injection e1 with e1
      subst e1
      refine wpList_append_two hgd s x t ho base e i z size bytes ht hi hz hsize hby hzs hsz _ n xs hs hown ad m c news hx hl.1 hc h1 h63 hbytes hbase fun v' w' h2 h3 _ => ?_
      obtain ⟨A', c', rfl, -⟩ := IsSlice.of_own h2
      exact h A' c' w' h2 h3
    · have hm0 : m = 0 := by omega
      subst hm0
      have hn : news = [] := List.eq_nil_of_length_eq_zero (by have := hl.1; simpa using this)
      subst hn
      refine wpList_append_two hgd s x t ho base e i z size bytes ht hi hz hsize hby hzs hsz _ n xs hs hown ad 0 c [] hx (by simp) (fun j u hu => by simp at hu) h1 h63 hbytes hbase fun v' w' h2 h3 _ => ?_
      obtain ⟨A', c', rfl, -⟩ := IsSlice.of_own h2
      exact h A' c' w' h2 h3
end Go.Proofs.YtgppfcaghjbjmaaGreatDoor
end

/- A row of the call's own that came of a conversion: its mark stands behind its cells; append onto it. -/
section
namespace Go.Proofs.YtgppfcaghjbjmaaGreatDoor
open Go.RowKit

/-- v is nil, or a row of the call's own (with the mark of a conversion, or with none) that begins with xs. -/
def OwnM (w : World) (base : Nat) (e : TypeId) (v : Value) (xs : List Value) : Prop :=
  (v = .slice none 0 0 ∧ xs = []) ∨ ∃ g cap cur fz, v = .slice (some ⟨g, 0, none⟩) xs.length cap ∧ base ≤ g ∧ w.heap[g]? = some (.cells cur e fz) ∧ xs.length ≤ cap ∧ cap ≤ maxLen ∧ cur.size = cap ∧ cur.toList.take xs.length = xs ∧ (fz = (0, 0) ∨ fz = (cap, cap + 1))
section
variable {w w' : World} {base : Nat} {e : TypeId} {v : Value} {xs : List Value}
theorem OwnM.of_own {n : Nat} (h : w.ownsRow base e 1 v n xs) : OwnM w base e v xs := by
  have hn := h.1
  rcases h.2 with ⟨rfl, h0⟩ | ⟨g, cap, cur, rfl, hb, hg, hnc, hcm, hcs, ht⟩
  · exact .inl ⟨rfl, List.eq_nil_of_length_eq_zero (by omega)⟩
  · exact .inr ⟨g, cap, cur, (0, 0), by rw [show xs.length = n by omega], hb, hg, by omega, hcm, by omega, by rw [show xs.length = n * 1 by omega]; exact ht, .inl rfl⟩
theorem OwnM.lt (h : OwnM w base e v xs) : ∀ k, v.ownBlock = some k → base ≤ k ∧ k < w.heap.size := by
  intro k hk
  rcases h with ⟨rfl, _⟩ | ⟨g, cap, cur, fz, rfl, hb, hg, _⟩
  · cases hk
  · simp only [Value.ownBlock, Option.some.injEq] at hk
    subst hk
    exact ⟨hb, (Array.getElem?_eq_some_iff.1 hg).1⟩
theorem OwnM.alloc (h : OwnM w base e v xs) (o : Obj) : OwnM (w.alloc o) base e v xs :=
  h.imp id fun ⟨g, cap, cur, fz, hv, hb, hg, hr⟩ => ⟨g, cap, cur, fz, hv, hb, by rw [Below.heap_alloc _ _ _ (Array.getElem?_eq_some_iff.1 hg).1]; exact hg, hr⟩
theorem OwnM.below (h : OwnM w base e v xs) (hb : Below w.heap.size w w') : OwnM w' base e v xs :=
  h.imp id fun ⟨g, cap, cur, fz, hv, hbg, hg, hr⟩ => ⟨g, cap, cur, fz, hv, hbg, by rw [hb.block g (Array.getElem?_eq_some_iff.1 hg).1]; exact hg, hr⟩
theorem OwnM.form (h : OwnM w base e v xs) : ∃ A c, v = .slice A xs.length c ∧ xs.length ≤ c ∧ c ≤ maxLen := by
  rcases h with ⟨rfl, rfl⟩ | ⟨g, cap, cur, fz, rfl, hb, hg, hnc, hcm, _⟩
  · exact ⟨none, 0, rfl, by simp, by unfold maxLen; omega⟩
  · exact ⟨_, _, rfl, hnc, hcm⟩
theorem OwnM.back {P : Program} {l : List UInt8} (src dst : TypeId) (hs : P.underlying src = some (.slice e)) (he : P.underlying e = some (.int .u8)) (hd : P.underlying dst = some .string) (h : OwnM w base e v (bytesV l)) :
    (convert src dst v).run P w = .ok (.string ⟨l.toArray⟩) w := by
  rcases h with ⟨rfl, hx⟩ | ⟨g, cap, cur, fz, rfl, hb, hg, hnc, hcm, hcs, ht, _⟩
  · have : l = [] := List.eq_nil_of_length_eq_zero (by have := congrArg List.length hx; simpa [bytesV_length] using this)
    subst this
    exact run_convert_bytes_nil w src e hs he 0 0 dst hd
  · refine conv_back w src dst e hs he hd l g _ cap (bytesV_length l) cur fz hg (fun j hj => ?_)
    have h1 : (bytesV l)[j]? = some (.int .u8 (l[j].toNat : Int)) := by simp [bytesV, hj]
    rw [← ht, List.getElem?_take] at h1
    split at h1
    · simpa using h1
    · cases h1

/-- '[]byte(s)' -/
theorem conv_bytes_m {P : Program} (w : World) (src dst e : TypeId) (hs : P.underlying src = some .string) (hd : P.underlying dst = some (.slice e)) (he : P.underlying e = some (.int .u8)) (l : List UInt8) (hl : l.length ≤ maxLen) :
    ∃ cap C, (convert src dst (.string ⟨l.toArray⟩)).run P w = .ok (.slice (some ⟨w.heap.size, 0, none⟩) l.length cap) (w.alloc (.cells C e (cap, cap + 1))).drew ∧
      OwnM (w.alloc (.cells C e (cap, cap + 1))).drew w.heap.size e (.slice (some ⟨w.heap.size, 0, none⟩) l.length cap) (bytesV l) := by
  have h := run_bytes_of_string (P := P) w src dst e ⟨l.toArray⟩ hs hd he
  have hsz : (ByteArray.mk l.toArray).size = l.length := by simp [ByteArray.size]
  have hge := grownCap_ge w (ByteArray.mk l.toArray).size 0 e
  have hle := grownCap_le_maxLen w (ByteArray.mk l.toArray).size 0 e (by rw [hsz]; exact hl)
  rw [hsz] at h hge hle
  have hsize : (bytesRow ⟨l.toArray⟩ (grownCap w l.length 0 e)).size = grownCap w l.length 0 e := by simp [bytesRow, hsz]; omega
  rw [hsize] at h
  refine ⟨_, _, h, .inr ⟨w.heap.size, _, _, _, by rw [bytesV_length], Nat.le_refl _, heap_alloc_new w _, by rw [bytesV_length]; exact hge, hle, hsize, ?_, .inr rfl⟩⟩
  rw [bytesV_length]
  unfold bytesRow
  rw [Array.toList_append, List.take_append_of_le_length (by simp), List.take_of_length_le (by simp)]
  simp [bytesV]

theorem frozen_row' {g cap j : Nat} {C : Array Value} {fz : Nat × Nat} (hb : w.heap[g]? = some (.cells C e fz)) (hfz : fz = (0, 0) ∨ fz = (cap, cap + 1)) (h : j < cap) : w.frozen? ⟨g, j, none⟩ = false := by
  unfold World.frozen?
  rw [hb]
  rcases hfz with rfl | rfl <;> simp <;> omega

/-- append of one cell -/
theorem wpList_append_m {P : Program} {ops : Array Oper} {rest : List Oper} {o : Oper} {a : Act} {Q : Exit → Act → World → Prop} (hgd : o.guard = none) (s x : Operand) (t : TypeId)
    (ho : o.op = .call { callee := .builtin .append, args := #[s, x], argTypes := #[t, t] })
    (i : TypeInfo) (z : Value) (bytes : Nat) (ht : P.underlying t = some (.slice e)) (hi : P.info? e = some i) (hz : i.zero = some z)
    (hsize : i.size = 1) (hby : i.bytes = bytes) (hzs : z.cells.size = 1)
    (hs : a.eval s = v) (hown : OwnM w base e v xs) (u : Value)
    (ad : Addr) (c : Nat) (hx : a.eval x = .slice (some ad) 1 c) (hnew : w.cell? ad = some u) (h1 : u.oneCell' = true)
    (h63 : xs.length + 1 ≤ maxLen) (hbytes : (xs.length + 1) * bytes ≤ 140737488355328) (hbase : base ≤ w.heap.size)
    (h : ∀ v' w', OwnM w' base e v' (xs ++ [u]) → w.grownBy w' v.ownBlock → wpList P ops Q rest (a.put o.dst v') w') : wpList P ops Q (o :: rest) a w := by
  have hnews : ∀ j v, [u][j]? = some v → w.cell? (ad.add j) = some v := by
    intro j v hj
    match j, hj with
    | 0, hj => simp at hj; subst hj; simpa [Addr.add] using hnew
  rcases hown with ⟨rfl, rfl⟩ | ⟨g, cap, cur, fz, rfl, hbg, hg, hnc, hcm, hcs, htk, hfz⟩
  · exact wpList_append_own w hgd s x t ho base e i z 1 bytes ht hi hz hsize hby hzs (by omega) _ _ _ hs (World.ownsRow_nil _ _ _ _) ad 1 c [u] hx rfl hnews (one_oneCell h1) (by simpa using h63) (by simpa using hbytes) hbase
      fun v' w' h2 h3 _ => h v' w' (OwnM.of_own h2) h3
  · have hcell : ∀ j y, xs[j]? = some y → w.cell? ⟨g, 0 + j, none⟩ = some y := by
      intro j y hj
      rw [Nat.zero_add, cell_of_row _ _ _ cur e fz hg]
      rw [← htk, List.getElem?_take] at hj
      split at hj
      · simpa using hj
      · cases hj
    refine wpList_append_arg w hgd s x t ho e i z 1 bytes ht hi hz hsize hby hzs (by omega) g 0 xs.length cap xs hs (by omega) hcell ad 1 c [u] hx rfl hnews (one_oneCell h1) ?_ h63 hbytes ?_ ?_
    · intro hr j hj
      obtain rfl : j = 0 := by simpa using hj
      refine ⟨?_, frozen_row' hg hfz (by omega)⟩
      rw [cell_of_row _ _ _ cur e fz hg]
      simp; omega
    · intro hr
      have hset : w.setCells g (0 + xs.length * 1) [u] = w.setCell ⟨g, xs.length, none⟩ u := by simp [World.setCells]
      rw [hset]
      refine h _ _ (.inr ⟨g, cap, _, fz, by simp, hbg, heap_set hg _ _, by simpa using hr, hcm, by simpa using hcs, ?_, hfz⟩) (gb_set (gb_refl _ _) (.inl rfl) _)
      rw [Array.toList_setIfInBounds, List.length_append, List.length_singleton, List.take_succ_eq_append_getElem (by simp; omega), List.take_set_of_le (Nat.le_refl _), htk]
      simp
    · intro hr v' w' h2 h3
      exact h _ _ (OwnM.of_own (by
        have := h2
        exact ⟨this.1, this.2.imp id fun ⟨g', cap', cur', hv, hb', hrest⟩ => ⟨g', cap', cur', hv, by omega, hrest⟩⟩)) ⟨h3.os, h3.tape, h3.output, h3.size, fun k hk _ => h3.block k hk (by simp)⟩
end
end Go.Proofs.YtgppfcaghjbjmaaGreatDoor
end

/- Loads of a struct, and of a cell, in a region that draws its order. -/
section
namespace Go.Proofs.YtgppfcaghjbjmaaGreatDoor
open Go.RowKit

/-- A load of a whole struct, and of one cell, in a region that draws its order, whose calls keep old memory. -/
theorem quiet_load_row {P : Program} {w : World} {o : Oper} {a : Act} {K : Act → Prop} (ty : TypeId) (x : Operand) (ho : o.op = .load ty x)
    (g : Nat) (hx : a.eval x = .pointer (some ⟨g, 0, none⟩)) (t : TypeId) (cs : Array Value) (fr : Nat × Nat) (d : TypeDesc) (hg : w.heap[g]? = some (.cells cs t fr))
    (hu : P.underlying ty = some d) (hd : (match d with | .struct _ | .array _ _ => true | _ => false) = true) (hi : (P.info? ty).map (·.size) = some cs.size)
    (h : K (a.put o.dst (.agg cs))) : o.quiet P a (fun W => Below w.heap.size w W) K := by
  refine ⟨.agg cs, fun W hW => ?_, h⟩
  have hgW : W.heap[g]? = some (.cells cs t fr) := by rw [hW.block g (Array.getElem?_eq_some_iff.1 hg).1]; exact hg
  unfold Oper.quietAt execOp
  simp only [ho, hx, Instr.loadAt, Instr.sureAddr, Sem.run_bind, Sem.run_pure, Result.andThen_ok, run_loadVar_row W g t ty cs fr d hgW hu hd hi]
  exact ⟨rfl, rfl⟩
theorem quiet_load_cell {P : Program} {w : World} {o : Oper} {a : Act} {K : Act → Prop} (ty : TypeId) (x : Operand) (ho : o.op = .load ty x)
    (p : Addr) (hx : a.eval x = .pointer (some p)) (v : Value) (d : TypeDesc) (hc : w.cell? p = some v)
    (hu : P.underlying ty = some d) (hd : (match d with | .struct _ | .array _ _ => true | _ => false) = false)
    (h : K (a.put o.dst v)) : o.quiet P a (fun W => Below w.heap.size w W) K := by
  refine ⟨v, fun W hW => ?_, h⟩
  have hcW : W.cell? p = some v := by rw [hW.cell (World.block_lt_of_cell? _ _ hc)]; exact hc
  have hagg : (isAgg ty).run P W = .ok false W := by
    unfold isAgg
    rw [Sem.run_bind, run_underlying hu W]
    cases d <;> simp_all
  unfold Oper.quietAt execOp
  simp only [ho, hx, Instr.loadAt, Instr.sureAddr, Sem.run_bind, Sem.run_pure, Result.andThen_ok, loadVar, hagg]
  simp [go_sem, hcW, Oper.quietUpon]
/-- A load of a part of a row. -/
theorem quiet_load_mid {P : Program} {w : World} {o : Oper} {a : Act} {K : Act → Prop} (ty : TypeId) (x : Operand) (ho : o.op = .load ty x)
    (b f : Nat) (hx : a.eval x = .pointer (some ⟨b, f, none⟩)) (cs : List Value) (d : TypeDesc) (hc : w.rangeAt b f cs) (hb : b < w.heap.size)
    (hu : P.underlying ty = some d) (hd : d.isRow = true) (hi : (P.info? ty).map (·.size) = some cs.length)
    (h : K (a.put o.dst (.agg cs.toArray))) : o.quiet P a (fun W => Below w.heap.size w W) K := by
  refine ⟨.agg cs.toArray, fun W hW => ?_, h⟩
  have hcW : W.rangeAt b f cs := fun j v hv => by rw [hW.cell hb]; exact hc j v hv
  unfold Oper.quietAt execOp
  simp only [ho, hx, Instr.loadAt, Instr.sureAddr, Sem.run_bind, Sem.run_pure, Result.andThen_ok, run_loadVar_mid W b f ty cs d hcW hu hd hi]
  exact ⟨rfl, rfl⟩
end Go.Proofs.YtgppfcaghjbjmaaGreatDoor
end
