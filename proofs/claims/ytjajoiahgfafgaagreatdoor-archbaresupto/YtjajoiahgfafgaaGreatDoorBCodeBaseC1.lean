/- Texts joined: Lib, Words, Plain03, Code1, CodeBits, Code2, Code3, Code4, Code5. -/
import Derived.Test.YtjajoiahgfafgaaGreatDoorRows
import Derived.WalkKit
import Derived.WalkSpells
import Derived.WalkLawsBesides
import Derived.BigQuiet
import Derived.Lib.Hide
import Derived.Laws.OwnMore
import Derived.Deep.QuietTactic
import Derived.Laws.BitsAllLaws
import Derived.Laws.BitsLemmas
import Derived.Shelf.Abstract
set_option linter.unusedSimpArgs false
set_option linter.unusedVariables false

/- General lemmas, over any program: a call that returns a value and leaves old memory as it was; a region that draws its order, at the class of the worlds that keep old memory. -/
section
namespace Go.Proofs.YtjajoiahgfafgaaGreatDoor
open Go.RowKit

/-- The call returned v; old memory is as it was. -/
def Ret (w : World) (v : Value) (e : Ending) (w' : World) : Prop := e = .returned v ∧ Below w.heap.size w w'

theorem ret_int {k : IntKind} {a b : Int} (h : a = b) : Ending.returned (.int k a) = .returned (.int k b) := by rw [h]
theorem Ret.mk {w w' : World} {v : Value} (h : Below w.heap.size w w') : Ret w v (.returned v) w' := ⟨rfl, h⟩

theorem below_drewN {B : Nat} {a w : World} (h : Below B a w) (n : Nat) : Below B a (w.drewN n) := ⟨h.os, h.tape, h.output, h.size, h.block⟩

@[go_sem] theorem forall_below (w : World) (B : Nat) (p : Prop) : (∀ W, Below B w W → p) ↔ p := ⟨fun h => h w (Below.refl _ _), fun h _ _ => h⟩

theorem wp_region_below {P : Program} {id : Nat} {Q : Exit → Act → World → Prop} {a : Act} {w : World} {l : List Oper} (hm : P.follows .mixedOrders = true) (hB : Region.lexB .any l.toArray = true)
    (h : wpQuiet P l.toArray (fun W => Below w.heap.size w W) (fun a' => ∀ W, Below w.heap.size w W → Q .normal a' W) l a) : (Code.region id l.toArray true).wp P Q a w :=
  wp_region_quiet (C := fun W => Below w.heap.size w W) hm hB ⟨rfl, rfl, rfl, Nat.le_refl _, fun _ _ => rfl⟩ (by simpa using h)

/-- A byte of a string that is told by a list. -/
@[go_sem] theorem ba_get (l : List UInt8) (i : Nat) (h : i < (ByteArray.mk l.toArray).size) : (ByteArray.mk l.toArray)[i]'h = l[i]'(by simpa [ByteArray.size] using h) := rfl

@[go_sem] theorem ba_append (l m : List UInt8) : ByteArray.mk l.toArray ++ ByteArray.mk m.toArray = ByteArray.mk (l ++ m).toArray := by
  apply ByteArray.ext; simp

@[go_sem] theorem ba_extract (l : List UInt8) (a b : Nat) : (ByteArray.mk l.toArray).extract a b = ByteArray.mk ((l.drop a).take (b - a)).toArray := by
  apply ByteArray.ext; simp [List.extract]
@[go_sem] theorem take_rest (l : List UInt8) (a : Nat) : (l.drop a).take (l.length - a) = l.drop a := List.take_of_length_le (by simp)

/-- At a call in such a region. -/
theorem Ret.quiet {P : Program} {f : FuncId} {args : Array Value} {w W : World} {v : Value} (hW : Below w.heap.size w W) (h : Calls P f args W (Ret W v)) :
    Calls P f args W fun e w'' => e = .returned v ∧ Below w.heap.size w w'' :=
  h.mono fun _ _ ⟨he, hb⟩ => ⟨he, hW.trans (hb.mono hW.size)⟩

/-- A cell below, and its mark, behind a call: the two rules of the walk. -/
theorem bcell {W w1 : World} (hb : Below W.heap.size W w1) : (∀ b o, b < W.heap.size → w1.cell? ⟨b, o, none⟩ = W.cell? ⟨b, o, none⟩) ∧ (∀ b o, b < W.heap.size → w1.frozen? ⟨b, o, none⟩ = W.frozen? ⟨b, o, none⟩) :=
  ⟨fun b o h => hb.cell (p := ⟨b, o, none⟩) h, fun b o h => hb.frozen (p := ⟨b, o, none⟩) h⟩

/-- 'string(b)', b a block that has just been laid. -/
theorem run_convert_laid {P : Program} (w : World) (src e dst : TypeId) (hs : P.underlying src = some (.slice e)) (he : P.underlying e = some (.int .u8)) (hd : P.underlying dst = some .string) (xs : List Int) (n cap : Nat) (hn : n = xs.length) (m : Nat × Nat) :
    (convert src dst (.slice (some ⟨w.heap.size, 0, none⟩) n cap)).run P (w.alloc (.cells (xs.map (Value.int .u8)).toArray e m)) =
      .ok (.string ⟨(xs.map fun n => UInt8.ofNat n.toNat).toArray⟩) (w.alloc (.cells (xs.map (Value.int .u8)).toArray e m)) := by
  subst hn
  refine run_convert_bytes_arg _ src e hs he _ 0 _ cap xs rfl (fun i hi => ?_) dst hd
  have h := heap_alloc_new w (.cells (xs.map (Value.int .u8)).toArray e m)
  rw [Nat.zero_add, cell_of_row _ _ i _ e m h]
  simp [hi]

end Go.Proofs.YtjajoiahgfafgaaGreatDoor
end

/- Words for slices that read as lists. -/
section
namespace Go.Proofs.YtjajoiahgfafgaaGreatDoor
open Go.RowKit

/-- The cells xs lie at A: n elements of 'size' cells each. -/
def Reads (w : World) (size : Nat) (A : Option Addr) (n : Nat) (xs : List Value) : Prop :=
  xs.length = n * size ∧ (0 < n → ∃ ad, A = some ad ∧ ∀ j u, xs[j]? = some u → w.cell? (ad.add j) = some u)

theorem block_of_add (a : Addr) (n : Nat) : (a.add n).block = a.block := by unfold Addr.add; split <;> rfl
theorem add_of_add (a : Addr) (i j : Nat) : (a.add i).add j = a.add (i + j) := by
  unfold Addr.add
  by_cases hi : i = 0 <;> by_cases hj : j = 0 <;> simp [hi, hj, Nat.add_assoc]

section
variable {w w' : World} {size n : Nat} {A : Option Addr} {xs : List Value}
theorem Reads.nil (w : World) (size : Nat) (A : Option Addr) : Reads w size A 0 [] := ⟨by simp, fun h => absurd h (by omega)⟩
theorem Reads.at_ {k : Nat} (h : Reads w 1 A n xs) (hk : k < n) : ∃ ad u, A = some ad ∧ xs[k]? = some u ∧ w.cell? (ad.add k) = some u := by
  obtain ⟨ad, e, hc⟩ := h.2 (by omega)
  have hl : k < xs.length := by have := h.1; omega
  exact ⟨ad, xs[k], e, List.getElem?_eq_getElem hl, hc k _ (List.getElem?_eq_getElem hl)⟩
theorem Reads.keep (h : Reads w size A n xs) (hk : ∀ p : Addr, p.block < w.heap.size → w'.cell? p = w.cell? p) : Reads w' size A n xs :=
  ⟨h.1, fun hn => by
    obtain ⟨ad, e, hc⟩ := h.2 hn
    exact ⟨ad, e, fun j u hu => (hk _ (World.block_lt_of_cell? _ _ (hc j u hu))).trans (hc j u hu)⟩⟩
theorem Reads.below (h : Reads w size A n xs) (hb : Below w.heap.size w w') : Reads w' size A n xs := h.keep fun _ hp => hb.cell hp
theorem Reads.cut (h : Reads w size A n xs) {k : Nat} (hk : k ≤ n) (B : Option Addr) (hB : k < n → B = A.map (·.add (k * size))) :
    Reads w size B (n - k) (xs.drop (k * size)) := by
  refine ⟨by rw [List.length_drop, h.1, Nat.sub_mul], fun hn => ?_⟩
  obtain ⟨ad, rfl, hcell⟩ := h.2 (by omega)
  refine ⟨ad.add (k * size), hB (by omega), fun j u hu => ?_⟩
  rw [add_of_add]
  exact hcell _ u (by rw [← hu, List.getElem?_drop])
theorem Reads.take (h : Reads w size A n xs) {k : Nat} (hk : k ≤ n) : Reads w size A k (xs.take (k * size)) := by
  have := Nat.mul_le_mul_right size hk
  refine ⟨by rw [List.length_take, h.1, Nat.min_eq_left this], fun hn => ?_⟩
  obtain ⟨ad, rfl, hcell⟩ := h.2 (by omega)
  refine ⟨ad, rfl, fun j u hu => hcell j u ?_⟩
  rw [List.getElem?_take] at hu
  split at hu
  · exact hu
  · cases hu
theorem Reads.of_own {base : Nat} {e : TypeId} {c : Nat} (h : w.ownsRow base e size (.slice A n c) n xs) : Reads w size A n xs := by
  refine ⟨h.1, fun hn => ?_⟩
  rcases h.2 with ⟨_, h0⟩ | ⟨g, cap, cur, hv, _⟩
  · omega
  · have hA : A = some ⟨g, 0, none⟩ := by injection hv
    subst hA
    exact ⟨_, rfl, h.cells (g := g) rfl⟩
end

/-- The slice value v reads as the cells xs. -/
def IsSlice (w : World) (size : Nat) (v : Value) (n : Nat) (xs : List Value) : Prop := ∃ A c, v = .slice A n c ∧ n ≤ c ∧ c ≤ maxLen ∧ Reads w size A n xs
theorem IsSlice.below {w w' : World} {size n : Nat} {v : Value} {xs : List Value} (h : IsSlice w size v n xs) (hb : Below w.heap.size w w') : IsSlice w' size v n xs := by
  obtain ⟨A, c, rfl, hc, hm, hr⟩ := h
  exact ⟨A, c, rfl, hc, hm, hr.below hb⟩
theorem IsSlice.of_own {w : World} {base : Nat} {e : TypeId} {size n : Nat} {v : Value} {xs : List Value} (h : w.ownsRow base e size v n xs) : IsSlice w size v n xs := by
  have h' := h
  rcases h.2 with ⟨rfl, rfl⟩ | ⟨g, cap, cur, rfl, _, _, hn, hc, _⟩
  · exact ⟨none, 0, rfl, Nat.le_refl _, Nat.zero_le _, Reads.of_own h'⟩
  · exact ⟨_, cap, rfl, hn, hc, Reads.of_own h'⟩

/-- '[]byte(s)': a new row whose first cells are the bytes. -/
theorem conv_bytes {P : Program} (w : World) (src dst e : TypeId) (hs : P.underlying src = some .string) (hd : P.underlying dst = some (.slice e)) (he : P.underlying e = some (.int .u8)) (l : List UInt8) :
    ∃ cap C m, (convert src dst (.string ⟨l.toArray⟩)).run P w = .ok (.slice (some ⟨w.heap.size, 0, none⟩) l.length cap) (w.alloc (.cells C e m)).drew ∧ l.length ≤ cap ∧ C.size = cap ∧ m = (cap, cap + 1) ∧
      ∀ j (h : j < l.length), C[j]? = some (.int .u8 (l[j].toNat : Int)) := by
  have h := run_bytes_of_string (P := P) w src dst e ⟨l.toArray⟩ hs hd he
  have hsz : (ByteArray.mk l.toArray).size = l.length := by simp [ByteArray.size]
  have hge := grownCap_ge w (ByteArray.mk l.toArray).size 0 e
  rw [hsz] at h hge
  have hsize : (bytesRow ⟨l.toArray⟩ (grownCap w l.length 0 e)).size = grownCap w l.length 0 e := by simp [bytesRow, hsz]; omega
  rw [hsize] at h
  refine ⟨grownCap w l.length 0 e, _, _, h, hge, hsize, rfl, fun j hj => ?_⟩
  unfold bytesRow
  rw [Array.getElem?_append_left (by simp; exact hj)]
  simp [hj]
/-- 'string(b)', b the head of a block whose first cells are the bytes. -/
theorem conv_back {P : Program} (w : World) (src dst e : TypeId) (hs : P.underlying src = some (.slice e)) (he : P.underlying e = some (.int .u8)) (hd : P.underlying dst = some .string) (l : List UInt8) (b n cap : Nat) (hn : n = l.length) (C : Array Value) (m : Nat × Nat)
    (hb : w.heap[b]? = some (.cells C e m)) (hC : ∀ j (h : j < l.length), C[j]? = some (.int .u8 (l[j].toNat : Int))) :
    (convert src dst (.slice (some ⟨b, 0, none⟩) n cap)).run P w = .ok (.string ⟨l.toArray⟩) w := by
  subst hn
  exact run_convert_bytes_back w src dst e ⟨b, 0, none⟩ cap l hs he hd (fun j hj => by
    rw [show (⟨b, 0, none⟩ : Addr).add j = ⟨b, j, none⟩ by unfold Addr.add; split <;> simp_all, cell_of_row _ _ _ C e m hb]
    exact hC j hj)
theorem heap_laid_set (w : World) (C : Array Value) (e : TypeId) (m : Nat × Nat) (k : Nat) (v : Value) : ((w.alloc (.cells C e m)).setCell ⟨w.heap.size, k, none⟩ v).heap[w.heap.size]? = some (.cells (C.setIfInBounds k v) e m) := by
  have hb := heap_alloc_new w (.cells C e m)
  simp only [World.setCell, Array.getElem?_modify, if_true, hb]
  rfl
theorem heap_set {W : World} {b : Nat} {C : Array Value} {e : TypeId} {m : Nat × Nat} (h : W.heap[b]? = some (.cells C e m)) (k : Nat) (v : Value) : (W.setCell ⟨b, k, none⟩ v).heap[b]? = some (.cells (C.setIfInBounds k v) e m) := by
  simp only [World.setCell, Array.getElem?_modify, if_true, h]
  rfl
/-- The cells of a row one of which has been written. -/
theorem bytes_set {C : Array Value} {s m : List UInt8} {f x : Nat} (hC : ∀ j (h : j < s.length), C[j]? = some (.int .u8 (s[j].toNat : Int))) (hf : f < s.length) (hx : x < 256) (hm : s.set f (UInt8.ofNat x) = m) :
    ∀ j (h : j < m.length), (C.setIfInBounds f (.int .u8 (x : Int)))[j]? = some (.int .u8 (m[j].toNat : Int)) := by
  subst hm
  intro j hj
  have hfC : f < C.size := (Array.getElem?_eq_some_iff.1 (hC f hf)).1
  by_cases hjk : j = f
  · subst hjk
    rw [Array.getElem?_setIfInBounds_self_of_lt hfC]
    simp [Nat.mod_eq_of_lt hx]
  · rw [Array.getElem?_setIfInBounds_ne (Ne.symm hjk)]
    simp only [List.getElem_set_ne (Ne.symm hjk)]
    exact hC j (by simpa using hj)
/-- The first cells of a row are the first bytes. -/
theorem bytes_take {C : Array Value} {s : List UInt8} (hC : ∀ j (h : j < s.length), C[j]? = some (.int .u8 (s[j].toNat : Int))) (k : Nat) :
    ∀ j (h : j < (s.take k).length), C[j]? = some (.int .u8 ((s.take k)[j].toNat : Int)) := by
  intro j hj
  rw [List.getElem_take]
  exact hC j (by simp at hj; omega)
theorem frozen_laid (w : World) (C : Array Value) (e : TypeId) (cap j : Nat) (h : j < cap) : (w.alloc (.cells C e (cap, cap + 1))).frozen? ⟨w.heap.size, j, none⟩ = false := by
  have hb := heap_alloc_new w (.cells C e (cap, cap + 1))
  unfold World.frozen?
  rw [hb]
  simp; omega

/-- The bytes of a text as cells. -/
def bytesV (l : List UInt8) : List Value := l.map fun b => .int .u8 (b.toNat : Int)
theorem bytesV_length (l : List UInt8) : (bytesV l).length = l.length := by simp [bytesV]
theorem bytesV_append (l m : List UInt8) : bytesV (l ++ m) = bytesV l ++ bytesV m := by simp [bytesV]
theorem bytesV_oneCell (l : List UInt8) : ∀ u ∈ bytesV l, u.oneCell' = true := by
  intro u hu
  simp only [bytesV, List.mem_map] at hu
  obtain ⟨s, _, rfl⟩ := hu
  rfl
/-- 'string(b)', b a row of the call's own (or nil). -/
theorem conv_own {P : Program} {w : World} {base : Nat} (src dst e : TypeId) (hs : P.underlying src = some (.slice e)) (he : P.underlying e = some (.int .u8)) (hd : P.underlying dst = some .string) {v : Value} {n : Nat} {l : List UInt8}
    (h : w.ownsRow base e 1 v n (bytesV l)) : (convert src dst v).run P w = .ok (.string ⟨l.toArray⟩) w := by
  have hn : n = l.length := by have := h.1; rw [bytesV_length] at this; omega
  rcases h.2 with ⟨rfl, h0⟩ | ⟨g, cap, cur, rfl, _, hg, _, _, _, ht⟩
  · rw [run_convert_bytes_nil w src e hs he 0 0 dst hd]
    have : l = [] := List.eq_nil_of_length_eq_zero (by omega)
    subst this
    rfl
  · refine conv_back w src dst e hs he hd l g n cap hn cur (0, 0) hg (fun j hj => ?_)
    have h1 : (bytesV l)[j]? = some (.int .u8 (l[j].toNat : Int)) := by simp [bytesV, hj]
    rw [← ht, List.getElem?_take] at h1
    split at h1
    · simpa using h1
    · cases h1

/-- A text as a value. -/
def strV (s : List UInt8) : Value := .string ⟨s.toArray⟩
def strs (l : List (List UInt8)) : List Value := l.map strV
theorem strs_get {l : List (List UInt8)} {k : Nat} (hk : k < l.length) : (strs l)[k]? = some (.string ⟨(l[k]).toArray⟩) := by
  simp [strs, strV, hk]
theorem strs_length (l : List (List UInt8)) : (strs l).length = l.length := by simp [strs]
theorem strs_take (l : List (List UInt8)) (k : Nat) : (strs l).take k = strs (l.take k) := by simp [strs, List.map_take]
theorem strs_drop (l : List (List UInt8)) (k : Nat) : (strs l).drop k = strs (l.drop k) := by simp [strs, List.map_drop]
theorem strs_append (l m : List (List UInt8)) : strs (l ++ m) = strs l ++ strs m := by simp [strs]
theorem strs_oneCell (l : List (List UInt8)) : ∀ u ∈ strs l, u.oneCell' = true := by
  intro u hu
  simp only [strs, List.mem_map] at hu
  obtain ⟨s, _, rfl⟩ := hu
  rfl

/-- The side goals of an append of one text that has just been laid. -/
theorem laid_one (w : World) (u : Value) (t : TypeId) : ∀ j v, [u][j]? = some v → (w.alloc (.cells #[u] t)).cell? ((⟨w.heap.size, 0, none⟩ : Addr).add j) = some v := by
  intro j v hj
  match j, hj with
  | 0, hj =>
    simp at hj
    subst hj
    rw [show (⟨w.heap.size, 0, none⟩ : Addr).add 0 = ⟨w.heap.size, 0, none⟩ by simp [Addr.add], cell_of_row _ _ _ #[u] t (0, 0) (heap_alloc_new w _)]
    rfl
theorem one_oneCell {u : Value} (h : u.oneCell' = true) : ∀ v ∈ [u], v.oneCell' = true := by
  intro v hv; simp at hv; subst hv; exact h

theorem own_below {w w' : World} {base : Nat} {e : TypeId} {size n : Nat} {v : Value} {xs : List Value} (h : w.ownsRow base e size v n xs) (hb : Below w.heap.size w w') : w'.ownsRow base e size v n xs :=
  h.kept (row := none) ⟨hb.os, hb.tape, hb.output, hb.size, fun k hk _ => hb.block k hk⟩ (by cases v.ownBlock <;> simp)
/-- Behind an append onto a row of the call's own. -/
theorem below_appended {a w w' : World} {B : Nat} {e : TypeId} {size n : Nat} {v : Value} {xs : List Value} (h : Below B a w) (hB : B ≤ w.heap.size) (hown : w.ownsRow B e size v n xs) (o : Obj)
    (hg : (w.alloc o).grownBy w' v.ownBlock) : Below B a w' :=
  (h.alloc hB o).grown hg (by simp; omega) (fun k hk => ((hown.alloc o).lt k hk).1)

/-! ### Only block b, and what is new, has turned -/
theorem gb_refl (w : World) (r : Option Nat) : w.grownBy w r := ⟨rfl, rfl, rfl, Nat.le_refl _, fun _ _ _ => rfl⟩
theorem gb_drewN {a w : World} {r : Option Nat} (h : a.grownBy w r) (n : Nat) : a.grownBy (w.drewN n) r := ⟨h.os, h.tape, h.output, h.size, h.block⟩
theorem gb_drew {a w : World} {r : Option Nat} (h : a.grownBy w r) : a.grownBy w.drew r := ⟨h.os, h.tape, h.output, h.size, h.block⟩
theorem gb_alloc {a w : World} {r : Option Nat} (h : a.grownBy w r) (o : Obj) : a.grownBy (w.alloc o) r :=
  ⟨h.os, h.tape, h.output, Nat.le_trans h.size (by simp), fun i hi hne => (Below.heap_alloc w o i (Nat.lt_of_lt_of_le hi h.size)).trans (h.block i hi hne)⟩
theorem gb_set {a w : World} {g : Nat} (h : a.grownBy w (some g)) {p : Addr} (hp : p.block = g ∨ a.heap.size ≤ p.block) (u : Value) : a.grownBy (w.setCell p u) (some g) :=
  ⟨h.os, h.tape, h.output, by simpa [World.setCell] using h.size, fun i hi hne => (Below.heap_setCell w p u i (by
    rintro rfl
    rcases hp with hp | hp
    · exact hne (by rw [hp])
    · omega)).trans (h.block i hi hne)⟩
theorem gb_below {a w w' : World} {r : Option Nat} (h : a.grownBy w r) (hb : Below w.heap.size w w') : a.grownBy w' r :=
  ⟨hb.os.trans h.os, hb.tape.trans h.tape, hb.output.trans h.output, Nat.le_trans h.size hb.size, fun i hi hne => (hb.block i (Nat.lt_of_lt_of_le hi h.size)).trans (h.block i hi hne)⟩
/-- a block of the call's own that is not below B may have turned -/
theorem below_gb {a w w' : World} {B g : Nat} (h : Below B a w) (hB : B ≤ w.heap.size) (hg : w.grownBy w' (some g)) (hBg : B ≤ g) : Below B a w' :=
  h.grown hg hB (fun k hk => by injection hk with hk; omega)
theorem own_gb {w w' : World} {base : Nat} {e : TypeId} {size n g : Nat} {v : Value} {xs : List Value} (h : w.ownsRow base e size v n xs) (hg : w.grownBy w' (some g)) (hlt : g < base) : w'.ownsRow base e size v n xs :=
  h.kept hg (by
    cases hv : v.ownBlock with
    | none => exact .inl rfl
    | some k => exact .inr (fun e => by injection e with e; have := (h.lt k hv).1; omega))

/-- v is a []string that reads as l. -/
def IsStrs (w : World) (v : Value) (l : List (List UInt8)) : Prop := IsSlice w 1 v l.length (strs l)
theorem IsStrs.below {w w' : World} {v : Value} {l : List (List UInt8)} (h : IsStrs w v l) (hb : Below w.heap.size w w') : IsStrs w' v l := IsSlice.below h hb

/-- What the walk asks of a []string: the address and the cell at an index. -/
theorem Reads.str_at {w : World} {A : Option Addr} {l : List (List UInt8)} {k : Nat} (h : Reads w 1 A l.length (strs l)) (hk : k < l.length) :
    ∃ ad, A = some ad ∧ w.cell? (ad.add k) = some (.string ⟨(l[k]).toArray⟩) := by
  obtain ⟨ad, u, hA, hu, hc⟩ := h.at_ hk
  rw [strs_get hk] at hu
  injection hu with hu
  exact ⟨ad, hA, by rw [hc, hu]⟩

theorem take_next {α : Type} {l m : List α} {k : Nat} (hl : k < l.length) (hm : k < m.length) (h : l.take k = m.take k) (he : l[k] = m[k]) : l.take (k + 1) = m.take (k + 1) := by
  rw [List.take_succ_eq_append_getElem hl, List.take_succ_eq_append_getElem hm, h, he]

end Go.Proofs.YtjajoiahgfafgaaGreatDoor
end

/- Plain laws of numbers as bytes: no program in sight. -/
section
namespace Go.Proofs.YtjajoiahgfafgaaGreatDoor.Plain

/-- a number's bytes, k of them at the most -/
def numF : Nat → Nat → List UInt8
  | 0, _ => []
  | k + 1, n => if n < 128 then [UInt8.ofNat n] else UInt8.ofNat (n % 128 + 128) :: numF k (n / 128)
def numB (n : Nat) : List UInt8 := numF 9 n
/-- the number at hand: i bytes of it are read -/
def numG : Nat → Nat → List UInt8 → Nat × List UInt8 × Nat
  | i, _, [] => (0, [], if 9 ≤ i then 31 else 30)
  | i, acc, c :: s => if i = 9 then (0, [], 31) else if c.toNat < 128 then (if c.toNat = 0 ∧ 0 < i then (0, [], 31) else (acc + c.toNat * 128 ^ i, s, 0)) else numG (i + 1) (acc + c.toNat % 128 * 128 ^ i) s
def numR (s : List UInt8) : Nat × List UInt8 × Nat := numG 0 0 s

theorem numF_length : ∀ k n, (numF k n).length ≤ k
  | 0, n => by simp [numF]
  | k + 1, n => by
    unfold numF; split
    · simp
    · have := numF_length k (n / 128); simp; omega
theorem numG_numF : ∀ (k i acc n : Nat) (r : List UInt8), i + k = 9 → n < 128 ^ k → (0 < i → 0 < n) → numG i acc (numF k n ++ r) = (acc + n * 128 ^ i, r, 0)
  | 0, i, acc, n, r, hi, hn, h0 => by simp at hn; omega
  | k + 1, i, acc, n, r, hi, hn, h0 => by
    unfold numF
    split
    · rename_i h
      have hc : (UInt8.ofNat n).toNat = n := by rw [UInt8.toNat_ofNat']; omega
      simp only [List.cons_append, List.nil_append, numG, hc]
      rw [if_neg (by omega), if_pos h, if_neg (by omega)]
    · rename_i h
      have hc : (UInt8.ofNat (n % 128 + 128)).toNat = n % 128 + 128 := by rw [UInt8.toNat_ofNat']; omega
      simp only [List.cons_append, numG, hc]
      rw [if_neg (by omega), if_neg (by omega), show (n % 128 + 128) % 128 = n % 128 by omega,
        numG_numF k (i + 1) _ (n / 128) r (by omega) (by rw [Nat.pow_succ] at hn; omega) (by omega)]
      have e : n * 128 ^ i = n % 128 * 128 ^ i + n / 128 * 128 ^ (i + 1) := by
        rw [Nat.pow_succ, ← Nat.mul_assoc, Nat.mul_right_comm (n / 128), ← Nat.add_mul]
        congr 1; omega
      rw [e, Nat.add_assoc]
theorem numG_short : ∀ (k i acc n m : Nat), i + k = 9 → m < (numF k n).length → numG i acc ((numF k n).take m) = (0, [], 30)
  | 0, i, acc, n, m, hi, hm => by simp [numF] at hm
  | k + 1, i, acc, n, m, hi, hm => by
    cases m with
    | zero => simp only [List.take_zero, numG]; rw [if_neg (by omega)]
    | succ m =>
      unfold numF at hm ⊢
      split at hm
      · simp at hm
      · rename_i h
        rw [if_neg h]
        have hc : (UInt8.ofNat (n % 128 + 128)).toNat = n % 128 + 128 := by rw [UInt8.toNat_ofNat']; omega
        simp only [List.take_succ_cons, numG, hc]
        rw [if_neg (by omega), if_neg (by omega)]
        exact numG_short k (i + 1) _ _ m (by omega) (by simpa using hm)
theorem numG_back : ∀ (s : List UInt8) (i acc v : Nat) (r : List UInt8), i ≤ 9 → numG i acc s = (v, r, 0) →
    ∃ n, s = numF (9 - i) n ++ r ∧ v = acc + n * 128 ^ i ∧ n < 128 ^ (9 - i) ∧ (0 < i → 0 < n)
  | [], i, acc, v, r, hi, h => by
    simp only [numG, Prod.mk.injEq] at h
    split at h <;> omega
  | c :: s, i, acc, v, r, hi, h => by
    have hc := c.toNat_lt
    simp only [numG] at h
    split at h
    · simp at h
    rename_i h9
    obtain ⟨k, hk⟩ : ∃ k, 9 - i = k + 1 := ⟨8 - i, by omega⟩
    rw [hk]
    split at h
    · split at h
      · simp at h
      · rename_i h1 h2
        simp only [Prod.mk.injEq, and_true] at h
        obtain ⟨rfl, rfl⟩ := h
        refine ⟨c.toNat, ?_, rfl, ?_, by omega⟩
        · unfold numF; rw [if_pos h1]; simp
        · have : 1 ≤ 128 ^ k := Nat.one_le_pow _ _ (by omega)
          rw [Nat.pow_succ]; omega
    · rename_i h1
      obtain ⟨n, h2, h3, h4, h5⟩ := numG_back s (i + 1) _ v r (by omega) h
      have hk2 : 9 - (i + 1) = k := by omega
      rw [hk2] at h2 h4
      refine ⟨n * 128 + c.toNat % 128, ?_, ?_, ?_, by omega⟩
      · unfold numF
        rw [if_neg (by omega), show (n * 128 + c.toNat % 128) % 128 + 128 = c.toNat by omega, show (n * 128 + c.toNat % 128) / 128 = n by omega]
        rw [h2, List.cons_append]
        congr 1
        rw [show c = UInt8.ofNat c.toNat from UInt8.ofNat_toNat.symm]
        simp
      · rw [h3, Nat.add_mul, Nat.pow_succ, Nat.mul_assoc n 128, Nat.mul_comm 128]; omega
      · rw [Nat.pow_succ]; omega

theorem numR_numB {n : Nat} (h : n < 9223372036854775808) (r : List UInt8) : numR (numB n ++ r) = (n, r, 0) := by
  have := numG_numF 9 0 0 n r rfl (by simpa using h) (by omega)
  rw [Nat.pow_zero, Nat.mul_one, Nat.zero_add] at this
  exact this
theorem numR_short {n m : Nat} (h : m < (numB n).length) : numR ((numB n).take m) = (0, [], 30) := numG_short 9 0 0 n m rfl h
theorem numR_back {s r : List UInt8} {v : Nat} (h : numR s = (v, r, 0)) : s = numB v ++ r ∧ v < 9223372036854775808 := by
  obtain ⟨n, h1, h2, h3, _⟩ := numG_back s 0 0 v r (by omega) h
  simp at h2 h3
  subst h2
  exact ⟨h1, h3⟩

/-! ### A reader: what is left, and its fault -/
abbrev St := List UInt8 × Nat
def takeR (pass : Nat → List UInt8 → List UInt8 × Nat) (st : St) : Nat × St :=
  if st.2 ≠ 0 then (0, st)
  else if (numR st.1).2.2 ≠ 0 then (0, (st.1, (numR st.1).2.2))
  else if (pass (numR st.1).1 (numR st.1).2.1).2 ≠ 0 then (0, (st.1, (pass (numR st.1).1 (numR st.1).2.1).2))
  else ((numR st.1).1, ((pass (numR st.1).1 (numR st.1).2.1).1, 0))
def passNum (_ : Nat) (rest : List UInt8) : List UInt8 × Nat := (rest, 0)
def passText (most : Int) (n : Nat) (rest : List UInt8) : List UInt8 × Nat := if most < n then ([], 32) else if rest.length < n then ([], 30) else (rest.drop n, 0)
def passCount (most least : Int) (n : Nat) (rest : List UInt8) : List UInt8 × Nat := if most < n then ([], 32) else if rest.length / (max least 1).toNat < n then ([], 30) else (rest, 0)
/-- the fault, or what is left -/
def endR (st : St) : Nat := if st.2 = 0 ∧ st.1 ≠ [] then 32 else st.2
end Go.Proofs.YtjajoiahgfafgaaGreatDoor.Plain
end

/- code.Num: a number's bytes. -/
section
namespace Go.Proofs.YtjajoiahgfafgaaGreatDoor
open Go.RowKit Plain
theorem or128 : ∀ x : Nat, x < 256 → x ||| 128 = x % 128 + 128 := by decide +kernel
theorem or128_go (m : Nat) : Go.bits .or .u8 ((m : Int) % 256) 128 = ((m % 128 + 128 : Nat) : Int) := by
  have h := u8_or_nat (m % 256) 128 (by omega) (by omega)
  rw [or128 _ (by omega), show m % 256 % 128 = m % 128 by omega] at h
  rw [← h]
  rfl
theorem info_byteC : (Tryz.prog.info? 5).map (fun i => (i.zero, i.size, i.bytes)) = some (some (.int .u8 0), 1, 1) := by kernel_rfl

set_option maxRecDepth 100000 in
set_option maxHeartbeats 400000 in
theorem Num_any (n : Nat) (w : World) (hn : n < 9223372036854775808) :
    Calls Tryz.prog 65 #[.int .i64 n] w (Ret w (.string ⟨(numB n).toArray⟩)) := by
  obtain ⟨i0, hi, hz0, hz1, hz2⟩ := info_parts info_byteC
  go_enter Tryz.func65, Tryz.ntmps65
  go_wp2_with (fail)
  go_loopw [0, 3] (fun t0 t3 wr => ∃ (m k : Nat) (acc : List UInt8), t0 = .int .i64 m ∧ acc.length + (k + 1) = 9 ∧ m < 128 ^ (k + 1) ∧ m < 9223372036854775808 ∧ acc ++ numF (k + 1) m = numB n ∧ wr.ownsRow w.heap.size 5 1 t3 acc.length (bytesV acc) ∧ Below w.heap.size w wr) (fun t0 _ _ => (intOf t0).toNat)
  case atStart => exact ⟨n, 8, [], rfl, rfl, by simpa using hn, hn, rfl, World.ownsRow_nil _ _ _ _, Below.refl _ _⟩
  case round =>
    obtain ⟨m, k, acc, rfl, hk, hm, hm63, hacc, hown, hb⟩ := hrel
    have HACC := Lib.hid hacc
    have HM := Lib.hid hm
    clear hacc hm
    by_cases h : m < 128
    · have hle : ¬ ((127 : Int) < m) := by omega
      go_wp2_with (at_builtin; refine wpList_append_own _ rfl _ _ 63 rfl w.heap.size 5 i0 _ 1 1 Tryz.underlying63 hi hz0 hz1 hz2 rfl (by decide) _ _ _ rfl (hown.alloc _) ⟨wr.heap.size, 0, none⟩ 1 1 [.int .u8 (m : Int)] rfl rfl (laid_one _ _ _) (one_oneCell rfl) ?c3 ?c4 ?c5 ?_)
      case c3 => unfold maxLen; omega
      case c4 => omega
      case c5 => have := hb.size; simp; omega
      intro v' w2 hown2 hg2 _
      have hbv : bytesV acc ++ [.int .u8 (m : Int)] = bytesV (acc ++ [UInt8.ofNat m]) := by
        rw [bytesV_append]; simp [bytesV]; omega
      rw [hbv] at hown2
      have hconv := conv_own (P := Tryz.prog) 63 9 5 Tryz.underlying63 Tryz.underlying5 Tryz.underlying9 hown2
      go_wp2_with (fail)
      go_ret
      refine ⟨?_, below_appended hb hb.size hown _ hg2⟩
      rw [← HACC.out]
      simp [numF, h]
    · have hgt : ((127 : Int) < m) := by omega
      have hor := or128_go m
      have hm127 : m / 128 < 9223372036854775808 := by omega
      have hk0 : k ≠ 0 := by
        rintro rfl
        have := HM.out
        simp at this
        omega
      go_wp2_with (at_builtin; refine wpList_append_own _ rfl _ _ 63 rfl w.heap.size 5 i0 _ 1 1 Tryz.underlying63 hi hz0 hz1 hz2 rfl (by decide) _ _ _ rfl (hown.alloc _) ⟨wr.heap.size, 0, none⟩ 1 1 [.int .u8 ((m % 128 + 128 : Nat) : Int)] rfl rfl (laid_one _ _ _) (one_oneCell rfl) ?c3 ?c4 ?c5 ?_)
      case c3 => unfold maxLen; omega
      case c4 => omega
      case c5 => have := hb.size; simp; omega
      intro v' w2 hown2 hg2 _
      go_wp2_with (fail)
      go_roundw
      case rel =>
        obtain ⟨k, rfl⟩ : ∃ j, k = j + 1 := ⟨k - 1, by omega⟩
        have hm := HM.out
        refine ⟨m / 128, k, acc ++ [UInt8.ofNat (m % 128 + 128)], ?_, by simp; omega, by rw [Nat.pow_succ] at hm; omega, by omega, ?_, ?_, below_appended hb hb.size hown _ hg2⟩
        · go_num
        · rw [List.append_assoc, ← HACC.out]
          conv => rhs; unfold numF
          rw [if_neg h]; rfl
        · rw [bytesV_append, List.length_append]
          have e : bytesV [UInt8.ofNat (m % 128 + 128)] = [.int .u8 ((m % 128 + 128 : Nat) : Int)] := by simp [bytesV]; omega
          rw [e]; exact hown2
      case measure => simp [intOf]; omega
end Go.Proofs.YtjajoiahgfafgaaGreatDoor
end

/- A number grows by seven bits. -/
section
namespace Go.Proofs.YtjajoiahgfafgaaGreatDoor
open Go.RowKit Plain
theorem ofInt_63 (a : Nat) (ha : a < 9223372036854775808) : (BitVec.ofInt 64 (a : Int)).toNat = a := by
  rw [BitVec.ofInt_natCast, BitVec.toNat_ofNat]; exact Nat.mod_eq_of_lt (by omega)
theorem i64_or_nat (a b : Nat) (ha : a < 9223372036854775808) (hb : b < 9223372036854775808) : Go.bits .or .i64 (a : Int) (b : Int) = ((a ||| b : Nat) : Int) := by
  have hx : a ||| b < 2 ^ 63 := Nat.or_lt_two_pow (by omega) (by omega)
  show IntKind.i64.wrap ((BitVec.ofInt 64 (a : Int) ||| BitVec.ofInt 64 (b : Int)).toNat : Int) = _
  rw [BitVec.toNat_or, ofInt_63 a ha, ofInt_63 b hb]
  simp [IntKind.wrap, IntKind.bits, IntKind.signed]
  omega
theorem pow7 (i : Nat) : 2 ^ (7 * i) = 128 ^ i := by rw [Nat.pow_mul]
theorem or_grow (acc d i : Nat) (ha : acc < 128 ^ i) (hd : d < 128) (hi : i ≤ 8) : Go.bits .or .i64 (acc : Int) (wrap64 ((d : Int) * 2 ^ (7 * i))) = ((acc + d * 128 ^ i : Nat) : Int) := by
  have h1 : (d : Int) * 2 ^ (7 * i) = ((d * 128 ^ i : Nat) : Int) := by
    rw [← pow7]; push_cast; rfl
  have h2 : 128 ^ i ≤ 128 ^ 8 := Nat.pow_le_pow_right (by omega) hi
  have h3 : d * 128 ^ i ≤ 127 * 128 ^ 8 := Nat.mul_le_mul (by omega) h2
  have h4 : wrap64 ((d * 128 ^ i : Nat) : Int) = ((d * 128 ^ i : Nat) : Int) := by unfold wrap64; omega
  rw [h1, h4, i64_or_nat _ _ (by omega) (by omega)]
  congr 1
  rw [← pow7, Nat.or_comm, Nat.mul_comm, ← Nat.two_pow_add_eq_or_of_lt (by rw [pow7]; exact ha)]
  omega
end Go.Proofs.YtjajoiahgfafgaaGreatDoor
end

/- (*code.bytes).number: the number at hand. -/
section
namespace Go.Proofs.YtjajoiahgfafgaaGreatDoor
open Go.RowKit Plain

theorem and127_go (c : Nat) (h : c < 256) : Go.bits .and .u8 (c : Int) 127 = ((c % 128 : Nat) : Int) := by
  have h1 := u8_and_nat c 127 h (by omega)
  have h2 : c &&& 127 = c % 128 := Nat.and_two_pow_sub_one_eq_mod c 7
  rw [h2] at h1
  exact h1

set_option maxRecDepth 100000 in
set_option maxHeartbeats 400000 in
theorem number_any (b f : Nat) (s : List UInt8) (w : World) (hb : w.heap[b]? = some (.cells #[.string ⟨s.toArray⟩, .int .i64 f] 83 (0, 0))) (hs : s.length ≤ 140737488355328) :
    Calls Tryz.prog 89 #[.pointer (some ⟨b, 0, none⟩)] w (Ret w (.tuple #[.int .i64 (numR s).1, .string ⟨(numR s).2.1.toArray⟩, .int .i64 (numR s).2.2])) := by
  have c0 : w.cell? ⟨b, 0, none⟩ = some (.string ⟨s.toArray⟩) := cell_of_row w b 0 _ _ _ hb
  go_enter Tryz.func89, Tryz.ntmps89
  go_wp2_with (fail)
  go_loopw [5, 6, 7, 13] (fun t5 _ _ t13 wr => ∃ (i acc : Nat), t5 = .int .i64 acc ∧ t13 = .int .i64 i ∧ i ≤ s.length ∧ i ≤ 9 ∧ acc < 128 ^ i ∧ numG i acc (s.drop i) = numR s ∧ wr = w) (fun _ _ _ t13 _ => s.length - (intOf t13).toNat)
  case atStart => exact ⟨0, 0, rfl, rfl, by omega, by omega, by simp, rfl, rfl⟩
  case round =>
    obtain ⟨i, acc, rfl, rfl, hi, hi9, hacc, hg, rfl⟩ := hrel
    have HG := Lib.hid hg
    have HA := Lib.hid hacc
    clear hg hacc
    by_cases hlt : i < s.length
    · have hlti : (i : Int) < s.length := by omega
      have hc : s[i].toNat < 256 := s[i].toNat_lt
      have hdr : s.drop i = s[i] :: s.drop (i + 1) := (List.getElem_cons_drop hlt).symm
      have HD := Lib.hid hdr
      generalize hcc : s[i] = c at *
      by_cases h9 : i = 9
      · have h9B : ((i : Int) == 9) = true := by rw [h9]; rfl
        have hg := HG.out
        rw [HD.out, numG, if_pos h9] at hg
        have HG2 := Lib.hid hg
        clear hdr h9 hg
        go_wp2_with (fail)
        go_ret3
        refine ⟨?_, Below.refl _ _⟩
        rw [← HG2.out]
        rfl
      · have hand : Go.bits .and .u8 (c.toNat : Int) 127 = ((c.toNat % 128 : Nat) : Int) := and127_go c.toNat hc
        have hm := Nat.mod_lt c.toNat (show 128 > 0 by omega)
        clear hdr
        have hor : Go.bits .or .i64 (acc : Int) (wrap64 ((c.toNat : Int) % 128 * 2 ^ (7 * i))) = ((acc + c.toNat % 128 * 128 ^ i : Nat) : Int) := by
          have h := or_grow acc (c.toNat % 128) i HA.out (by omega) (by omega)
          rw [← h]; rfl
        set_option maxRecDepth 4000 in go_wp2_with (fail)
        · have h0 : c.toNat = 0 := by assumption
          have hi0 : 0 < i := by assumption
          have hg := HG.out
          rw [HD.out, numG, if_neg h9, if_pos (by omega), if_pos ⟨h0, hi0⟩] at hg
          go_ret3
          exact ⟨by rw [← hg]; rfl, Below.refl _ _⟩
        · have h0 : c.toNat = 0 := by assumption
          have hi0 : ¬ 0 < i := by assumption
          have hg := HG.out
          rw [HD.out, numG, if_neg h9, if_pos (by omega), if_neg (by omega)] at hg
          go_quiet (fail)
          go_wp2_with (fail)
          go_ret3
          refine ⟨?_, below_drewN (Below.refl _ _) _⟩
          rw [← hg, h0]
          simp only [Array.getD_eq_getD_getElem?, List.getElem?_toArray, List.getElem?_cons_succ, List.getElem?_cons_zero, Option.getD_some]
          simp
        · have h0 : ¬ c.toNat = 0 := by assumption
          have h128 : c.toNat < 128 := by omega
          have hg := HG.out
          rw [HD.out, numG, if_neg h9, if_pos h128, if_neg (by omega)] at hg
          have HG2 := Lib.hid hg
          clear hg
          go_quiet (fail)
          go_wp2_with (fail)
          go_ret3
          refine ⟨?_, below_drewN (Below.refl _ _) _⟩
          rw [← HG2.out]
          simp only [Array.getD_eq_getD_getElem?, List.getElem?_toArray, List.getElem?_cons_succ, List.getElem?_cons_zero, Option.getD_some]
          rw [show ((acc + c.toNat * 128 ^ i : Nat) : Int) = (acc : Int) + (c.toNat : Int) % 128 * 128 ^ i by rw [show (c.toNat : Int) % 128 = ((c.toNat : Nat) : Int) by omega]; push_cast; rfl]
          rfl
        · have h128 : ¬ c.toNat < 128 := by omega
          have hg := HG.out
          rw [HD.out, numG, if_neg h9, if_neg h128] at hg
          go_roundw
          case rel =>
            refine ⟨i + 1, acc + c.toNat % 128 * 128 ^ i, by push_cast; rfl, by go_num, by omega, by omega, ?_, hg, trivial⟩
            have ha := HA.out
            have h2 : c.toNat % 128 * 128 ^ i ≤ 127 * 128 ^ i := Nat.mul_le_mul_right _ (by omega)
            rw [Nat.pow_succ]; omega
          case measure => simp [intOf]; omega
    · obtain rfl : i = s.length := by omega
      have hg := HG.out
      rw [List.drop_length, numG] at hg
      by_cases h9 : 9 ≤ s.length
      · rw [if_pos h9] at hg
        go_wp2_with (fail)
        go_ret3
        refine ⟨?_, Below.refl _ _⟩
        rw [← hg]
        rfl
      · rw [if_neg h9] at hg
        go_wp2_with (fail)
        go_ret3
        refine ⟨?_, Below.refl _ _⟩
        rw [← hg]
        rfl
end Go.Proofs.YtjajoiahgfafgaaGreatDoor
end

/- A reader of bytes: what it holds; a number that passes is taken. -/
section
namespace Go.Proofs.YtjajoiahgfafgaaGreatDoor
open Go.RowKit Plain

/-- The reader at block br, its bytes at block bb: what is left, and its fault. -/
structure Rd (br bb : Nat) (st : St) (w : World) : Prop where
  ne : br ≠ bb
  outer : w.heap[br]? = some (.cells #[.pointer (some ⟨bb, 0, none⟩)] 85 (0, 0))
  inner : w.heap[bb]? = some (.cells #[.string ⟨st.1.toArray⟩, .int .i64 (st.2 : Nat)] 83 (0, 0))
  short : st.1.length ≤ 140737488355328

theorem lt_of_heap {w : World} {b : Nat} {o : Obj} (h : w.heap[b]? = some o) : b < w.heap.size := (Array.getElem?_eq_some_iff.1 h).1
theorem Rd.grown {br bb : Nat} {st : St} {w w' : World} {r : Option Nat} (h : Rd br bb st w) (hg : w.grownBy w' r) (h1 : r ≠ some br) (h2 : r ≠ some bb) : Rd br bb st w' :=
  ⟨h.ne, (hg.block br (lt_of_heap h.outer) (fun e => h1 e.symm)).trans h.outer, (hg.block bb (lt_of_heap h.inner) (fun e => h2 e.symm)).trans h.inner, h.short⟩
theorem Rd.below {br bb : Nat} {st : St} {w w' : World} (h : Rd br bb st w) (hb : Below w.heap.size w w') : Rd br bb st w' :=
  ⟨h.ne, (hb.block br (lt_of_heap h.outer)).trans h.outer, (hb.block bb (lt_of_heap h.inner)).trans h.inner, h.short⟩
theorem Rd.facts {br bb : Nat} {st : St} {w : World} (h : Rd br bb st w) : w.cell? ⟨br, 0, none⟩ = some (.pointer (some ⟨bb, 0, none⟩)) ∧ w.cell? ⟨bb, 0, none⟩ = some (.string ⟨st.1.toArray⟩) ∧ w.cell? ⟨bb, 1, none⟩ = some (.int .i64 (st.2 : Nat)) ∧
    w.frozen? ⟨bb, 0, none⟩ = false ∧ w.frozen? ⟨bb, 1, none⟩ = false :=
  ⟨cell_of_row w br 0 _ _ _ h.outer, cell_of_row w bb 0 _ _ _ h.inner, cell_of_row w bb 1 _ _ _ h.inner, by unfold World.frozen?; rw [h.inner]; rfl, by unfold World.frozen?; rw [h.inner]; rfl⟩
theorem heap_set_ne {w : World} {b c : Nat} (h : c ≠ b) (k : Nat) (v : Value) : (w.setCell ⟨b, k, none⟩ v).heap[c]? = w.heap[c]? := by
  simp only [World.setCell, Array.getElem?_modify]
  rw [if_neg (fun e => h e.symm)]
theorem Rd.fail {br bb : Nat} {st : St} {w : World} (h : Rd br bb st w) (e : Nat) : Rd br bb (st.1, e) (w.setCell ⟨bb, 1, none⟩ (.int .i64 (e : Nat))) :=
  ⟨h.ne, (heap_set_ne h.ne _ _).trans h.outer, by rw [heap_set h.inner]; rfl, h.short⟩
theorem Rd.go {br bb : Nat} {st : St} {w : World} (h : Rd br bb st w) (s : List UInt8) (hs : s.length ≤ 140737488355328) : Rd br bb (s, st.2) (w.setCell ⟨bb, 0, none⟩ (.string ⟨s.toArray⟩)) :=
  ⟨h.ne, (heap_set_ne h.ne _ _).trans h.outer, by rw [heap_set h.inner]; rfl, hs⟩
theorem Rd.drewN {br bb : Nat} {st : St} {w : World} (h : Rd br bb st w) (n : Nat) : Rd br bb st (w.drewN n) := ⟨h.ne, h.outer, h.inner, h.short⟩

/-- The call returned v; the reader stands at st; nothing else that was there at w0 has turned. -/
def RdRet (w0 : World) (br bb : Nat) (st : St) (v : Value) (e : Ending) (w' : World) : Prop := e = .returned v ∧ Rd br bb st w' ∧ w0.grownBy w' (some bb)

theorem numG_rest : ∀ (i acc : Nat) (s : List UInt8), (numG i acc s).2.1.length ≤ s.length
  | i, acc, [] => by unfold numG; split <;> simp
  | i, acc, c :: s => by
    unfold numG
    split
    · simp
    · split
      · split <;> simp
      · have := numG_rest (i + 1) (acc + c.toNat % 128 * 128 ^ i) s; simp; omega

theorem takeR_bad {pass : Nat → List UInt8 → List UInt8 × Nat} {s : List UInt8} {f : Nat} (h : f ≠ 0) : takeR pass (s, f) = (0, (s, f)) := by unfold takeR; simp [h]
theorem takeR_num {pass : Nat → List UInt8 → List UInt8 × Nat} {s rest : List UInt8} {n e : Nat} (h : numR s = (n, rest, e)) (he : e ≠ 0) : takeR pass (s, 0) = (0, (s, e)) := by unfold takeR; simp [h, he]
theorem takeR_pass {pass : Nat → List UInt8 → List UInt8 × Nat} {s rest r2 : List UInt8} {n e : Nat} (h : numR s = (n, rest, 0)) (h2 : pass n rest = (r2, e)) (he : e ≠ 0) : takeR pass (s, 0) = (0, (s, e)) := by unfold takeR; simp [h, h2, he]
theorem takeR_ok {pass : Nat → List UInt8 → List UInt8 × Nat} {s rest r2 : List UInt8} {n : Nat} (h : numR s = (n, rest, 0)) (h2 : pass n rest = (r2, 0)) : takeR pass (s, 0) = (n, (r2, 0)) := by unfold takeR; simp [h, h2]

set_option maxRecDepth 100000 in
set_option maxHeartbeats 1000000 in
theorem take_pure (kf : Nat) (cap : Array Value) (pass : Nat → List UInt8 → List UInt8 × Nat) (br bb : Nat) (s : List UInt8) (f : Nat) (w0 w : World) (h : Rd br bb (s, f) w) (hg : w0.grownBy w (some bb)) 
    (hent : ∀ args w, (callFunc kf args).run Tryz.prog w = .ok (.enter kf args) w) (hlen : ∀ n rest, (pass n rest).1.length ≤ rest.length)
    (hpass : ∀ n rest W, Below w.heap.size w W → n < 9223372036854775808 → rest.length ≤ 140737488355328 → Calls Tryz.prog kf (#[.int .i64 (n : Nat), .string ⟨rest.toArray⟩] ++ cap) W (Ret W (.tuple #[.string ⟨(pass n rest).1.toArray⟩, .int .i64 ((pass n rest).2 : Nat)]))) :
    Calls Tryz.prog 56 #[.pointer (some ⟨br, 0, none⟩), .func (.func kf) #[] cap] w (RdRet w0 br bb (takeR pass (s, f)).2 (.int .i64 ((takeR pass (s, f)).1 : Nat))) := by
  have hs := h.short
  by_cases hf : f = 0
  · subst hf
    obtain ⟨c, c0, c1, f0, f1⟩ := h.facts
    have hN := number_any bb 0 s w h.inner hs
    rcases hnr : numR s with ⟨n, rest, e⟩
    rw [hnr] at hN
    by_cases he : e = 0
    · subst he
      rcases hps : pass n rest with ⟨r2, e2⟩
      have hP := fun W hW => hpass n rest W hW (numR_back hnr).2 (by have := numG_rest 0 0 s; rw [show numG 0 0 s = numR s from rfl, hnr] at this; simp at this hs; omega)
      have hL := hlen n rest
      rw [hps] at hL
      rw [hps] at hP
      have hr2 : r2.length ≤ 140737488355328 := by have := numG_rest 0 0 s; rw [show numG 0 0 s = numR s from rfl, hnr] at this; simp at this hL hs; omega
      have HNR := Lib.hid hnr
      have HPS := Lib.hid hps
      clear hnr hps hlen hpass
      by_cases he2 : e2 = 0
      · subst he2
        rw [takeR_ok HNR.out HPS.out]
        go_enter Tryz.func56, Tryz.ntmps56
        go_wp2_with (fail)
        refine hN.mono ?_
        rintro e w1 ⟨rfl, hb1⟩
        have h1 := h.below hb1
        obtain ⟨d, d0, d1, g0, g1⟩ := h1.facts
        go_wp2_with (fail)
        refine (hP _ hb1).mono ?_
        rintro e w2 ⟨rfl, hb2⟩
        have h2 := h1.below hb2
        clear d d0 d1 g0 g1
        obtain ⟨d, d0, d1, g0, g1⟩ := h2.facts
        go_wp2_with (fail)
        go_ret
        exact ⟨rfl, h2.go r2 hr2, gb_set (gb_below (gb_below hg hb1) hb2) (.inl rfl) _⟩
      · rw [takeR_pass HNR.out HPS.out he2]
        have he2' : ((e2 : Int) != 0) = true := by simpa using he2
        go_enter Tryz.func56, Tryz.ntmps56
        go_wp2_with (fail)
        refine hN.mono ?_
        rintro e w1 ⟨rfl, hb1⟩
        have h1 := h.below hb1
        obtain ⟨d, d0, d1, g0, g1⟩ := h1.facts
        go_wp2_with (fail)
        refine (hP _ hb1).mono ?_
        rintro e w2 ⟨rfl, hb2⟩
        have h2 := h1.below hb2
        clear d d0 d1 g0 g1
        obtain ⟨d, d0, d1, g0, g1⟩ := h2.facts
        go_wp2_with (fail)
        go_ret
        exact ⟨rfl, h2.fail e2, gb_set (gb_below (gb_below hg hb1) hb2) (.inl rfl) _⟩
    · have HNR := Lib.hid hnr
      clear hnr hlen hpass
      rw [takeR_num HNR.out he]
      have he1 : ((e : Int) == 0) = false := by simpa using he
      have he2 : ((e : Int) != 0) = true := by simpa using he
      go_enter Tryz.func56, Tryz.ntmps56
      go_wp2_with (fail)
      refine hN.mono ?_
      rintro x w1 ⟨rfl, hb1⟩
      have h1 := h.below hb1
      obtain ⟨d, d0, d1, g0, g1⟩ := h1.facts
      go_wp2_with (fail)
      go_ret
      exact ⟨rfl, h1.fail e, gb_set (gb_below hg hb1) (.inl rfl) _⟩
  · rw [takeR_bad hf]
    clear hlen hpass
    obtain ⟨c, c0, c1, f0, f1⟩ := h.facts
    have he2 : ((f : Int) != 0) = true := by simpa using hf
    go_enter Tryz.func56, Tryz.ntmps56
    go_wp2_with (fail)
    go_ret
    exact ⟨rfl, h, hg⟩
end Go.Proofs.YtjajoiahgfafgaaGreatDoor
end

/- A reader's calls: a number, a text, a flag, how many follow, what is left. -/
section
namespace Go.Proofs.YtjajoiahgfafgaaGreatDoor
open Go.RowKit Plain

theorem enter_num : ∀ args w, (callFunc 58 args).run Tryz.prog w = .ok (.enter 58 args) w := enters_of Tryz.func58 (by kernel_rfl) rfl

set_option maxRecDepth 100000 in
set_option maxHeartbeats 400000 in
theorem num1 (n : Nat) (rest : List UInt8) (w : World) : Calls Tryz.prog 58 #[.int .i64 n, .string ⟨rest.toArray⟩] w (Ret w (.tuple #[.string ⟨(passNum n rest).1.toArray⟩, .int .i64 ((passNum n rest).2 : Nat)])) := by
  go_enter Tryz.func58, Tryz.ntmps58
  go_wp2_with (fail)
  go_ret2
  exact ⟨rfl, Below.refl _ _⟩

set_option maxRecDepth 100000 in
set_option maxHeartbeats 400000 in
theorem RNum_any (br bb : Nat) (s : List UInt8) (f : Nat) (w : World) (h : Rd br bb (s, f) w) :
    Calls Tryz.prog 26 #[.pointer (some ⟨br, 0, none⟩)] w (RdRet w br bb (takeR passNum (s, f)).2 (.int .i64 ((takeR passNum (s, f)).1 : Nat))) := by
  have hT := take_pure 58 #[] passNum br bb s f w w h (gb_refl _ _) enter_num (fun _ _ => Nat.le_refl _) (fun n rest W _ _ _ => num1 n rest W)
  rcases htr : takeR passNum (s, f) with ⟨n, st⟩
  rw [htr] at hT
  clear htr
  go_enter Tryz.func26, Tryz.ntmps26
  go_wp2_with (fail)
  refine hT.mono ?_
  rintro e w1 ⟨rfl, h1, hg1⟩
  go_wp2_with (fail)
  go_ret
  exact ⟨rfl, h1, hg1⟩

theorem passCount_len (most least : Int) (n : Nat) (rest : List UInt8) : (passCount most least n rest).1.length ≤ rest.length := by
  unfold passCount; split
  · simp
  · split <;> simp

set_option maxRecDepth 100000 in
set_option maxHeartbeats 400000 in
theorem count1 (most least : Int) (n : Nat) (rest : List UInt8) (w : World) (a b : Nat) (ha : w.cell? ⟨a, 0, none⟩ = some (.int .i64 most)) (hb : w.cell? ⟨b, 0, none⟩ = some (.int .i64 least)) (hn : n < 9223372036854775808) (hr : rest.length ≤ 140737488355328) :
    Calls Tryz.prog 59 #[.int .i64 n, .string ⟨rest.toArray⟩, .pointer (some ⟨a, 0, none⟩), .pointer (some ⟨b, 0, none⟩)] w (Ret w (.tuple #[.string ⟨(passCount most least n rest).1.toArray⟩, .int .i64 ((passCount most least n rest).2 : Nat)])) := by
  unfold passCount
  by_cases h1 : most < n
  · rw [if_pos h1]
    go_enter Tryz.func59, Tryz.ntmps59
    go_wp2_with (fail)
    go_ret2
    exact ⟨rfl, Below.refl _ _⟩
  · rw [if_neg h1]
    by_cases hl : least < 1
    · have hm : (max least 1).toNat = 1 := by omega
      rw [hm, Nat.div_one]
      have hw : wrap64 (rest.length : Int) = rest.length := by unfold wrap64; omega
      by_cases h2 : rest.length < n
      · rw [if_pos h2]
        go_enter Tryz.func59, Tryz.ntmps59
        go_wp2_with (fail)
        go_ret2
        exact ⟨rfl, Below.refl _ _⟩
      · rw [if_neg h2]
        go_enter Tryz.func59, Tryz.ntmps59
        go_wp2_with (fail)
        go_ret2
        exact ⟨rfl, Below.refl _ _⟩
    · obtain ⟨k, rfl⟩ := Int.eq_ofNat_of_zero_le (show 0 ≤ least by omega)
      have hm : (max (k : Int) 1).toNat = k := by omega
      have hd : rest.length / k ≤ rest.length := Nat.div_le_self _ _
      have hw : wrap64 ((rest.length : Int) / (k : Int)) = ((rest.length / k : Nat) : Int) := by
        rw [← Int.natCast_ediv]; generalize rest.length / k = q at *; unfold wrap64; omega
      have hl' : (1 : Int) ≤ k := by omega
      rw [hm]
      by_cases h2 : rest.length / k < n
      · rw [if_pos h2]
        go_enter Tryz.func59, Tryz.ntmps59
        go_wp2_with (fail)
        go_ret2
        exact ⟨rfl, Below.refl _ _⟩
      · rw [if_neg h2]
        go_enter Tryz.func59, Tryz.ntmps59
        go_wp2_with (fail)
        go_ret2
        exact ⟨rfl, Below.refl _ _⟩

theorem enter_count : ∀ args w, (callFunc 59 args).run Tryz.prog w = .ok (.enter 59 args) w := enters_of Tryz.func59 (by kernel_rfl) rfl
theorem enter_text : ∀ args w, (callFunc 57 args).run Tryz.prog w = .ok (.enter 57 args) w := enters_of Tryz.func57 (by kernel_rfl) rfl

set_option maxRecDepth 100000 in
set_option maxHeartbeats 400000 in
theorem RCount_any (br bb : Nat) (most least : Int) (s : List UInt8) (f : Nat) (w : World) (h : Rd br bb (s, f) w) :
    Calls Tryz.prog 27 #[.pointer (some ⟨br, 0, none⟩), .int .i64 most, .int .i64 least] w (RdRet w br bb (takeR (passCount most least) (s, f)).2 (.int .i64 ((takeR (passCount most least) (s, f)).1 : Nat))) := by
  have hb0 := ((Below.refl w.heap.size w).alloc (Nat.le_refl _) (.cells #[.int .i64 most] 3)).alloc (by simp) (.cells #[.int .i64 least] 3)
  have hT := take_pure 59 #[.pointer (some ⟨w.heap.size, 0, none⟩), .pointer (some ⟨w.heap.size + 1, 0, none⟩)] (passCount most least) br bb s f w _ (h.below hb0) (gb_below (gb_refl _ _) hb0) enter_count (passCount_len most least)
    (fun n rest W hW hn hr => count1 most least n rest W _ _ (by rw [hW.cell (by simp; try omega)]; go_simp) (by rw [hW.cell (by simp; try omega)]; go_simp) hn hr)
  rcases htr : takeR (passCount most least) (s, f) with ⟨n, st⟩
  rw [htr] at hT
  clear htr
  go_enter Tryz.func27, Tryz.ntmps27
  go_wp2_with (fail)
  refine hT.mono ?_
  rintro e w1 ⟨rfl, h1, hg1⟩
  go_wp2_with (fail)
  go_ret
  exact ⟨rfl, h1, hg1⟩

/-- the text at hand -/
def textR (most : Int) (st : St) : List UInt8 :=
  if st.2 ≠ 0 then [] else if (numR st.1).2.2 ≠ 0 then [] else if (passText most (numR st.1).1 (numR st.1).2.1).2 ≠ 0 then [] else (numR st.1).2.1.take (numR st.1).1

set_option maxRecDepth 100000 in
set_option maxHeartbeats 400000 in
theorem text1_bad (most : Int) (n : Nat) (rest : List UInt8) (w : World) (a b : Nat) (ha : w.cell? ⟨a, 0, none⟩ = some (.int .i64 most)) (h : (passText most n rest).2 ≠ 0) :
    Calls Tryz.prog 57 #[.int .i64 n, .string ⟨rest.toArray⟩, .pointer (some ⟨a, 0, none⟩), .pointer (some ⟨b, 0, none⟩)] w (Ret w (.tuple #[.string ⟨(passText most n rest).1.toArray⟩, .int .i64 ((passText most n rest).2 : Nat)])) := by
  unfold passText at *
  by_cases h1 : most < n
  · rw [if_pos h1]
    clear h
    go_enter Tryz.func57, Tryz.ntmps57
    go_wp2_with (fail)
    go_ret2
    exact ⟨rfl, Below.refl _ _⟩
  · rw [if_neg h1] at h ⊢
    by_cases h2 : rest.length < n
    · rw [if_pos h2]
      clear h
      go_enter Tryz.func57, Tryz.ntmps57
      go_wp2_with (fail)
      go_ret2
      exact ⟨rfl, Below.refl _ _⟩
    · rw [if_neg h2] at h
      exact absurd rfl h
set_option maxRecDepth 100000 in
set_option maxHeartbeats 400000 in
theorem text1_ok (most : Int) (n : Nat) (rest : List UInt8) (w : World) (a b : Nat) (ha : w.cell? ⟨a, 0, none⟩ = some (.int .i64 most)) (hb : w.heap[b]? = some (.cells #[.string ⟨#[]⟩] 9 (0, 0))) (h : (passText most n rest).2 = 0) :
    Calls Tryz.prog 57 #[.int .i64 n, .string ⟨rest.toArray⟩, .pointer (some ⟨a, 0, none⟩), .pointer (some ⟨b, 0, none⟩)] w fun e w' => e = .returned (.tuple #[.string ⟨(passText most n rest).1.toArray⟩, .int .i64 0]) ∧
      w' = w.setCell ⟨b, 0, none⟩ (.string ⟨(rest.take n).toArray⟩) := by
  unfold passText at *
  by_cases h1 : most < n
  · rw [if_pos h1] at h; cases h
  · rw [if_neg h1] at h ⊢
    by_cases h2 : rest.length < n
    · rw [if_pos h2] at h; cases h
    · rw [if_neg h2]
      clear h
      have c := cell_of_row w b 0 _ _ _ hb
      have f0 : w.frozen? ⟨b, 0, none⟩ = false := by unfold World.frozen?; rw [hb]; rfl
      have hn1 : (n : Int) ≤ rest.length := by omega
      go_enter Tryz.func57, Tryz.ntmps57
      go_wp2_with (fail)
      go_ret2
      exact ⟨rfl, rfl⟩
end Go.Proofs.YtjajoiahgfafgaaGreatDoor
end

/- A reader's calls: a text, a flag, what is left, the fault; a new reader; what is written. -/
section
namespace Go.Proofs.YtjajoiahgfafgaaGreatDoor
open Go.RowKit Plain

/-- as RdRet, and the text lies at block b -/
def TxtPost (w0 : World) (br bb b : Nat) (st : St) (t : List UInt8) (e : Ending) (w' : World) : Prop := ∃ v, RdRet w0 br bb st v e w' ∧ w'.cell? ⟨b, 0, none⟩ = some (.string ⟨t.toArray⟩)

set_option maxRecDepth 100000 in
set_option maxHeartbeats 1000000 in
theorem take_text (most : Int) (a b br bb : Nat) (s : List UInt8) (f : Nat) (w0 w : World) (h : Rd br bb (s, f) w) (hg : w0.grownBy w (some bb)) (ha : w.cell? ⟨a, 0, none⟩ = some (.int .i64 most)) (hb : w.heap[b]? = some (.cells #[.string ⟨#[]⟩] 9 (0, 0)))
    (hlt : a < w.heap.size) (hb0 : w0.heap.size ≤ b) (hbr : br ≠ b) (hbb : bb ≠ b) :
    Calls Tryz.prog 56 #[.pointer (some ⟨br, 0, none⟩), .func (.func 57) #[] #[.pointer (some ⟨a, 0, none⟩), .pointer (some ⟨b, 0, none⟩)]] w
      (TxtPost w0 br bb b (takeR (passText most) (s, f)).2 (textR most (s, f))) := by
  have hs : s.length ≤ 140737488355328 := h.short
  have hblt := lt_of_heap hb
  have HBC := Lib.hid (cell_of_row w b 0 _ _ _ hb)
  by_cases hf : f = 0
  · subst hf
    obtain ⟨c, c0, c1, f0, f1⟩ := h.facts
    have hN := number_any bb 0 s w h.inner hs
    rcases hnr : numR s with ⟨n, rest, e⟩
    rw [hnr] at hN
    by_cases he : e = 0
    · subst he
      rcases hps : passText most n rest with ⟨r2, e2⟩
      have hrest : rest.length ≤ 140737488355328 := by have := numG_rest 0 0 s; rw [show numG 0 0 s = numR s from rfl, hnr] at this; simp at this; omega
      by_cases he2 : e2 = 0
      · subst he2
        have hr2 : r2.length ≤ 140737488355328 := by
          have : r2 = (passText most n rest).1 := by rw [hps]
          rw [this]; unfold passText; split
          · simp
          · split <;> simp; omega
        have htx : textR most (s, 0) = rest.take n := by simp [textR, hnr, hps]
        have hP := fun W hA hB => text1_ok most n rest W a b hA hB (by rw [hps])
        rw [hps] at hP
        rw [takeR_ok hnr hps, htx]
        clear hnr hps htx
        go_enter Tryz.func56, Tryz.ntmps56
        go_wp2_with (fail)
        refine hN.mono ?_
        rintro e w1 ⟨rfl, hb1⟩
        have h1 := h.below hb1
        obtain ⟨d, d0, d1, g0, g1⟩ := h1.facts
        go_wp2_with (fail)
        refine (hP _ ((hb1.cell hlt).trans ha) ((hb1.block b hblt).trans hb)).mono ?_
        rintro e w2 ⟨rfl, rfl⟩
        have h2 : Rd br bb (s, 0) (w1.setCell ⟨b, 0, none⟩ (.string ⟨(rest.take n).toArray⟩)) := ⟨h1.ne, (heap_set_ne hbr _ _).trans h1.outer, (heap_set_ne hbb _ _).trans h1.inner, hs⟩
        have hbk : (w1.setCell ⟨b, 0, none⟩ (.string ⟨(rest.take n).toArray⟩)).heap[b]? = some (.cells #[.string ⟨(rest.take n).toArray⟩] 9 (0, 0)) := heap_set ((hb1.block b hblt).trans hb) _ _
        have hg2 : w0.grownBy (w1.setCell ⟨b, 0, none⟩ (.string ⟨(rest.take n).toArray⟩)) (some bb) := gb_set (gb_below hg hb1) (.inr hb0) _
        generalize w1.setCell ⟨b, 0, none⟩ (.string ⟨(rest.take n).toArray⟩) = w2 at *
        clear d d0 d1 g0 g1
        obtain ⟨d, d0, d1, g0, g1⟩ := h2.facts
        go_wp2_with (fail)
        go_ret
        refine ⟨_, ⟨rfl, h2.go r2 hr2, gb_set hg2 (.inl rfl) _⟩, ?_⟩
        exact cell_of_row _ b 0 _ _ _ ((heap_set_ne (Ne.symm hbb) _ _).trans hbk)
      · have htx : textR most (s, 0) = [] := by simp [textR, hnr, hps, he2]
        have hP := fun W hA => text1_bad most n rest W a b hA (by rw [hps]; exact he2)
        rw [hps] at hP
        rw [takeR_pass hnr hps he2, htx]
        clear hnr hps htx
        have he2' : ((e2 : Int) != 0) = true := by simpa using he2
        go_enter Tryz.func56, Tryz.ntmps56
        go_wp2_with (fail)
        refine hN.mono ?_
        rintro e w1 ⟨rfl, hb1⟩
        have h1 := h.below hb1
        obtain ⟨d, d0, d1, g0, g1⟩ := h1.facts
        go_wp2_with (fail)
        refine (hP _ ((hb1.cell hlt).trans ha)).mono ?_
        rintro e w2 ⟨rfl, hb2⟩
        have h2 := h1.below hb2
        clear d d0 d1 g0 g1
        obtain ⟨d, d0, d1, g0, g1⟩ := h2.facts
        go_wp2_with (fail)
        go_ret
        refine ⟨_, ⟨rfl, h2.fail e2, gb_set (gb_below (gb_below hg hb1) hb2) (.inl rfl) _⟩, ?_⟩
        exact cell_of_row _ b 0 _ _ _ ((heap_set_ne (Ne.symm hbb) _ _).trans ((hb2.block b (Nat.lt_of_lt_of_le hblt hb1.size)).trans ((hb1.block b hblt).trans hb)))
    · have htx : textR most (s, 0) = [] := by simp [textR, hnr, he]
      rw [takeR_num hnr he, htx]
      clear hnr htx
      have he1 : ((e : Int) == 0) = false := by simpa using he
      have he2 : ((e : Int) != 0) = true := by simpa using he
      go_enter Tryz.func56, Tryz.ntmps56
      go_wp2_with (fail)
      refine hN.mono ?_
      rintro x w1 ⟨rfl, hb1⟩
      have h1 := h.below hb1
      obtain ⟨d, d0, d1, g0, g1⟩ := h1.facts
      go_wp2_with (fail)
      go_ret
      refine ⟨_, ⟨rfl, h1.fail e, gb_set (gb_below hg hb1) (.inl rfl) _⟩, ?_⟩
      exact cell_of_row _ b 0 _ _ _ ((heap_set_ne (Ne.symm hbb) _ _).trans ((hb1.block b hblt).trans hb))
  · have htx : textR most (s, f) = [] := by simp [textR, hf]
    rw [takeR_bad hf, htx]
    clear htx
    obtain ⟨c, c0, c1, f0, f1⟩ := h.facts
    have he2 : ((f : Int) != 0) = true := by simpa using hf
    go_enter Tryz.func56, Tryz.ntmps56
    go_wp2_with (fail)
    go_ret
    exact ⟨_, ⟨rfl, h, hg⟩, HBC.out⟩

set_option maxRecDepth 100000 in
set_option maxHeartbeats 400000 in
theorem RText_any (br bb : Nat) (most : Int) (s : List UInt8) (f : Nat) (w : World) (h : Rd br bb (s, f) w) :
    Calls Tryz.prog 25 #[.pointer (some ⟨br, 0, none⟩), .int .i64 most] w (RdRet w br bb (takeR (passText most) (s, f)).2 (.string ⟨(textR most (s, f)).toArray⟩)) := by
  have hb0 := ((Below.refl w.heap.size w).alloc (Nat.le_refl _) (.cells #[.int .i64 most] 3)).alloc (by simp) (.cells #[.string ⟨#[]⟩] 9)
  have h1 := lt_of_heap h.outer
  have h2 := lt_of_heap h.inner
  have hT := take_text most w.heap.size (w.heap.size + 1) br bb s f w _ (h.below hb0) (gb_below (gb_refl _ _) hb0) (by go_simp) (by simpa using heap_alloc_new (w.alloc (.cells #[.int .i64 most] 3)) (.cells #[.string ⟨#[]⟩] 9)) (by simp; omega) (by omega) (by omega) (by omega)
  generalize (takeR (passText most) (s, f)).2 = st at *
  generalize textR most (s, f) = t at *
  go_enter Tryz.func25, Tryz.ntmps25
  go_wp2_with (fail)
  refine hT.mono ?_
  rintro e w1 ⟨v, ⟨rfl, h1, hg1⟩, hc⟩
  go_wp2_with (fail)
  go_ret
  exact ⟨rfl, h1, hg1⟩

def flagR (st : St) : Bool × St :=
  if st.2 ≠ 0 then (false, st) else match st.1 with
    | [] => (false, ([], 30))
    | c :: r => if 1 < c.toNat then (false, (c :: r, 31)) else (decide (c.toNat = 1), (r, 0))


end Go.Proofs.YtjajoiahgfafgaaGreatDoor
end
