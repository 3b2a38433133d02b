/- Words for slices that read as lists. -/
import Derived.Test.YtfddhhaecfjepaaLib
import Derived.Laws.OwnMore
import Derived.Deep.QuietTactic
namespace Go.Proofs.Ytfddhhaecfjepaa
open Go.RowKit

/-- The cells xs lie at A: n elements of 'size' cells each. -/
def Reads (w : World) (size : Nat) (A : Option Addr) (n : Nat) (xs : List Value) : Prop :=
  xs.length = n * size ∧ (0 < n → ∃ ad, A = some ad ∧ ∀ j u, xs[j]? = some u → w.cell? (ad.add j) = some u)

theorem block_of_add (a : Addr) (n : Nat) : (a.add n).block = a.block := by unfold Addr.add; split <;> rfl
theorem add_of_add (a : Addr) (i j : Nat) : (a.add i).add j = a.add (i + j) := by
  unfold Addr.add
  by_cases hi : i = 0 <;> by_cases hj : j = 0 <;> simp [hi, hj, Nat.add_assoc]

section
variable {w w' : World} {size n : Nat} {A : Option Addr} {xs : List Value}
theorem Reads.nil (w : World) (size : Nat) (A : Option Addr) : Reads w size A 0 [] := ⟨by simp, fun h => absurd h (by omega)⟩
theorem Reads.at_ {k : Nat} (h : Reads w 1 A n xs) (hk : k < n) : ∃ ad u, A = some ad ∧ xs[k]? = some u ∧ w.cell? (ad.add k) = some u := by
  obtain ⟨ad, e, hc⟩ := h.2 (by omega)
  have hl : k < xs.length := by have := h.1; omega
  exact ⟨ad, xs[k], e, List.getElem?_eq_getElem hl, hc k _ (List.getElem?_eq_getElem hl)⟩
theorem Reads.keep (h : Reads w size A n xs) (hk : ∀ p : Addr, p.block < w.heap.size → w'.cell? p = w.cell? p) : Reads w' size A n xs :=
  ⟨h.1, fun hn => by
    obtain ⟨ad, e, hc⟩ := h.2 hn
    exact ⟨ad, e, fun j u hu => (hk _ (World.block_lt_of_cell? _ _ (hc j u hu))).trans (hc j u hu)⟩⟩
theorem Reads.below (h : Reads w size A n xs) (hb : Below w.heap.size w w') : Reads w' size A n xs := h.keep fun _ hp => hb.cell hp
theorem Reads.cut (h : Reads w size A n xs) {k : Nat} (hk : k ≤ n) (B : Option Addr) (hB : k < n → B = A.map (·.add (k * size))) :
    Reads w size B (n - k) (xs.drop (k * size)) := by
  refine ⟨by rw [List.length_drop, h.1, Nat.sub_mul], fun hn => ?_⟩
  obtain ⟨ad, rfl, hcell⟩ := h.2 (by omega)
  refine ⟨ad.add (k * size), hB (by omega), fun j u hu => ?_⟩
  rw [add_of_add]
  exact hcell _ u (by rw [← hu, List.getElem?_drop])
theorem Reads.take (h : Reads w size A n xs) {k : Nat} (hk : k ≤ n) : Reads w size A k (xs.take (k * size)) := by
  have := Nat.mul_le_mul_right size hk
  refine ⟨by rw [List.length_take, h.1, Nat.min_eq_left this], fun hn => ?_⟩
  obtain ⟨ad, rfl, hcell⟩ := h.2 (by omega)
  refine ⟨ad, rfl, fun j u hu => hcell j u ?_⟩
  rw [List.getElem?_take] at hu
  split at hu
  · exact hu
  · cases hu
theorem Reads.of_own {base : Nat} {e : TypeId} {c : Nat} (h : w.ownsRow base e size (.slice A n c) n xs) : Reads w size A n xs := by
  refine ⟨h.1, fun hn => ?_⟩
  rcases h.2 with ⟨_, h0⟩ | ⟨g, cap, cur, hv, _⟩
  · omega
  · have hA : A = some ⟨g, 0, none⟩ := by injection hv
    subst hA
    exact ⟨_, rfl, h.cells (g := g) rfl⟩
end

/-- The slice value v reads as the cells xs. -/
def IsSlice (w : World) (size : Nat) (v : Value) (n : Nat) (xs : List Value) : Prop := ∃ A c, v = .slice A n c ∧ n ≤ c ∧ c ≤ maxLen ∧ Reads w size A n xs
theorem IsSlice.below {w w' : World} {size n : Nat} {v : Value} {xs : List Value} (h : IsSlice w size v n xs) (hb : Below w.heap.size w w') : IsSlice w' size v n xs := by
  obtain ⟨A, c, rfl, hc, hm, hr⟩ := h
  exact ⟨A, c, rfl, hc, hm, hr.below hb⟩
theorem IsSlice.of_own {w : World} {base : Nat} {e : TypeId} {size n : Nat} {v : Value} {xs : List Value} (h : w.ownsRow base e size v n xs) : IsSlice w size v n xs := by
  have h' := h
  rcases h.2 with ⟨rfl, rfl⟩ | ⟨g, cap, cur, rfl, _, _, hn, hc, _⟩
  · exact ⟨none, 0, rfl, Nat.le_refl _, Nat.zero_le _, Reads.of_own h'⟩
  · exact ⟨_, cap, rfl, hn, hc, Reads.of_own h'⟩

/-- '[]byte(s)': a new row whose first cells are the bytes. -/
theorem conv_bytes {P : Program} (w : World) (src dst e : TypeId) (hs : P.underlying src = some .string) (hd : P.underlying dst = some (.slice e)) (he : P.underlying e = some (.int .u8)) (l : List UInt8) :
    ∃ cap C m, (convert src dst (.string ⟨l.toArray⟩)).run P w = .ok (.slice (some ⟨w.heap.size, 0, none⟩) l.length cap) (w.alloc (.cells C e m)).drew ∧ l.length ≤ cap ∧ C.size = cap ∧ m = (cap, cap + 1) ∧
      ∀ j (h : j < l.length), C[j]? = some (.int .u8 (l[j].toNat : Int)) := by
  have h := run_bytes_of_string (P := P) w src dst e ⟨l.toArray⟩ hs hd he
  have hsz : (ByteArray.mk l.toArray).size = l.length := by simp [ByteArray.size]
  have hge := grownCap_ge w (ByteArray.mk l.toArray).size 0 e
  rw [hsz] at h hge
  have hsize : (bytesRow ⟨l.toArray⟩ (grownCap w l.length 0 e)).size = grownCap w l.length 0 e := by simp [bytesRow, hsz]; omega
  rw [hsize] at h
  refine ⟨grownCap w l.length 0 e, _, _, h, hge, hsize, rfl, fun j hj => ?_⟩
  unfold bytesRow
  rw [Array.getElem?_append_left (by simp; exact hj)]
  simp [hj]
/-- 'string(b)', b the head of a block whose first cells are the bytes. -/
theorem conv_back {P : Program} (w : World) (src dst e : TypeId) (hs : P.underlying src = some (.slice e)) (he : P.underlying e = some (.int .u8)) (hd : P.underlying dst = some .string) (l : List UInt8) (b n cap : Nat) (hn : n = l.length) (C : Array Value) (m : Nat × Nat)
    (hb : w.heap[b]? = some (.cells C e m)) (hC : ∀ j (h : j < l.length), C[j]? = some (.int .u8 (l[j].toNat : Int))) :
    (convert src dst (.slice (some ⟨b, 0, none⟩) n cap)).run P w = .ok (.string ⟨l.toArray⟩) w := by
  subst hn
  exact run_convert_bytes_back w src dst e ⟨b, 0, none⟩ cap l hs he hd (fun j hj => by
    rw [show (⟨b, 0, none⟩ : Addr).add j = ⟨b, j, none⟩ by unfold Addr.add; split <;> simp_all, cell_of_row _ _ _ C e m hb]
    exact hC j hj)
theorem heap_laid_set (w : World) (C : Array Value) (e : TypeId) (m : Nat × Nat) (k : Nat) (v : Value) : ((w.alloc (.cells C e m)).setCell ⟨w.heap.size, k, none⟩ v).heap[w.heap.size]? = some (.cells (C.setIfInBounds k v) e m) := by
  have hb := heap_alloc_new w (.cells C e m)
  simp only [World.setCell, Array.getElem?_modify, if_true, hb]
  rfl
theorem frozen_laid (w : World) (C : Array Value) (e : TypeId) (cap j : Nat) (h : j < cap) : (w.alloc (.cells C e (cap, cap + 1))).frozen? ⟨w.heap.size, j, none⟩ = false := by
  have hb := heap_alloc_new w (.cells C e (cap, cap + 1))
  unfold World.frozen?
  rw [hb]
  simp; omega

/-- A text as a value. -/
def strV (s : List UInt8) : Value := .string ⟨s.toArray⟩
def strs (l : List (List UInt8)) : List Value := l.map strV
theorem strs_get {l : List (List UInt8)} {k : Nat} (hk : k < l.length) : (strs l)[k]? = some (.string ⟨(l[k]).toArray⟩) := by
  simp [strs, strV, hk]
theorem strs_length (l : List (List UInt8)) : (strs l).length = l.length := by simp [strs]
theorem strs_take (l : List (List UInt8)) (k : Nat) : (strs l).take k = strs (l.take k) := by simp [strs, List.map_take]
theorem strs_drop (l : List (List UInt8)) (k : Nat) : (strs l).drop k = strs (l.drop k) := by simp [strs, List.map_drop]
theorem strs_append (l m : List (List UInt8)) : strs (l ++ m) = strs l ++ strs m := by simp [strs]
theorem strs_oneCell (l : List (List UInt8)) : ∀ u ∈ strs l, u.oneCell' = true := by
  intro u hu
  simp only [strs, List.mem_map] at hu
  obtain ⟨s, _, rfl⟩ := hu
  rfl

/-- The side goals of an append of one text that has just been laid. -/
theorem laid_one (w : World) (u : Value) (t : TypeId) : ∀ j v, [u][j]? = some v → (w.alloc (.cells #[u] t)).cell? ((⟨w.heap.size, 0, none⟩ : Addr).add j) = some v := by
  intro j v hj
  match j, hj with
  | 0, hj =>
    simp at hj
    subst hj
    rw [show (⟨w.heap.size, 0, none⟩ : Addr).add 0 = ⟨w.heap.size, 0, none⟩ by simp [Addr.add], cell_of_row _ _ _ #[u] t (0, 0) (heap_alloc_new w _)]
    rfl
theorem one_oneCell {u : Value} (h : u.oneCell' = true) : ∀ v ∈ [u], v.oneCell' = true := by
  intro v hv; simp at hv; subst hv; exact h

theorem own_below {w w' : World} {base : Nat} {e : TypeId} {size n : Nat} {v : Value} {xs : List Value} (h : w.ownsRow base e size v n xs) (hb : Below w.heap.size w w') : w'.ownsRow base e size v n xs :=
  h.kept (row := none) ⟨hb.os, hb.tape, hb.output, hb.size, fun k hk _ => hb.block k hk⟩ (by cases v.ownBlock <;> simp)
/-- Behind an append onto a row of the call's own. -/
theorem below_appended {a w w' : World} {B : Nat} {e : TypeId} {size n : Nat} {v : Value} {xs : List Value} (h : Below B a w) (hB : B ≤ w.heap.size) (hown : w.ownsRow B e size v n xs) (o : Obj)
    (hg : (w.alloc o).grownBy w' v.ownBlock) : Below B a w' :=
  (h.alloc hB o).grown hg (by simp; omega) (fun k hk => ((hown.alloc o).lt k hk).1)

/-- v is a []string that reads as l. -/
def IsStrs (w : World) (v : Value) (l : List (List UInt8)) : Prop := IsSlice w 1 v l.length (strs l)
theorem IsStrs.below {w w' : World} {v : Value} {l : List (List UInt8)} (h : IsStrs w v l) (hb : Below w.heap.size w w') : IsStrs w' v l := IsSlice.below h hb

/-- What the walk asks of a []string: the address and the cell at an index. -/
theorem Reads.str_at {w : World} {A : Option Addr} {l : List (List UInt8)} {k : Nat} (h : Reads w 1 A l.length (strs l)) (hk : k < l.length) :
    ∃ ad, A = some ad ∧ w.cell? (ad.add k) = some (.string ⟨(l[k]).toArray⟩) := by
  obtain ⟨ad, u, hA, hu, hc⟩ := h.at_ hk
  rw [strs_get hk] at hu
  injection hu with hu
  exact ⟨ad, hA, by rw [hc, hu]⟩

theorem take_next {α : Type} {l m : List α} {k : Nat} (hl : k < l.length) (hm : k < m.length) (h : l.take k = m.take k) (he : l[k] = m[k]) : l.take (k + 1) = m.take (k + 1) := by
  rw [List.take_succ_eq_append_getElem hl, List.take_succ_eq_append_getElem hm, h, he]

end Go.Proofs.Ytfddhhaecfjepaa
