/- Texts joined: Lit2, Lit3. -/
import Derived.Test.YtgppfcaghjbjmaaGreatDoorBLitBase1
import Derived.OwnWalk
set_option linter.unusedSimpArgs false
set_option linter.unusedVariables false

/- strings.NewReplacer for a path's letters; its table. -/
section
set_option linter.unusedVariables false
namespace Go.Proofs.YtgppfcaghjbjmaaGreatDoor
open Go.RowKit

/-- what is asked of NewReplacer -/
def litArgs : List (List UInt8) := [[42], [92, 42], [63], [92, 63], [91], [92, 91], [92], [92, 92]]
theorem info_strL : (Tryz.prog.info? 9).map (fun i => (i.zero, i.size, i.bytes)) = some (some (.string ByteArray.empty), 1, 16) := by kernel_rfl

set_option maxRecDepth 100000 in
set_option maxHeartbeats 1000000 in
theorem NewReplacer_lit (A : Option Addr) (c : Nat) (w : World) (hR : Reads w 1 A 8 (strs litArgs)) :
    Calls Tryz.prog 18 #[.slice A 8 c] w fun e w' => ∃ (b d : Nat) (D : Option Addr), e = .returned (.pointer (some ⟨b, 0, none⟩)) ∧ w.heap.size ≤ b ∧
      w'.heap[b]? = some (.cells #[.int .u32 0, .int .i32 0, .int .u32 0, .nilIface, .slice D 8 d] 63 (0, 0)) ∧ Reads w' 1 D 8 (strs litArgs) ∧ (∀ ad, D = some ad → ad.block < b) ∧ Below w.heap.size w w' := by
  obtain ⟨i0, hi, hz0, hz1, hz2⟩ := info_parts info_strL
  have HI := Lib.hid hi
  have HR := Lib.hid hR
  clear hi hR
  go_enter Tryz.func18, Tryz.ntmps18
  go_wp2_with (at_builtin; refine wpList_append_slice rfl _ _ 38 rfl w.heap.size 9 i0 _ 1 16 Tryz.underlying38 HI.out hz0 hz1 hz2 rfl (by decide) none 0 0 [] rfl (World.ownsRow_nil _ _ _ _) A 8 c (strs litArgs) rfl HR.out ?c1 ?c3 ?c4 ?c5 ?_)
  case c1 => intro u hu; simp [strs, litArgs] at hu; rcases hu with rfl | rfl | rfl | rfl | rfl | rfl | rfl | rfl <;> rfl
  case c3 => unfold maxLen; omega
  case c4 => omega
  case c5 => exact Nat.le_refl _
  intro A5 c5 w5 hown5 hg5
  try simp only [Nat.zero_add, List.nil_append] at hown5
  have hb5 : Below w.heap.size w w5 := (Below.refl _ _).grown hg5 (Nat.le_refl _) (fun k hk => by cases hk)
  have hR5 : Reads w5 1 A5 8 (strs litArgs) := Reads.of_own hown5
  have HL5 := Lib.hid (fun ad (e : A5 = some ad) => (hown5.lt ad.block (by rw [e]; rfl)).2)
  have HB5 := Lib.hid hb5
  have HR5 := Lib.hid hR5
  clear hown5 hg5 hb5 hR5
  go_wp2_with (fail)
  go_ret
  exact ⟨_, _, _, rfl, HB5.out.size, heap_alloc_new _ _, HR5.out.below ((Below.refl _ _).alloc (Nat.le_refl _) _), HL5.out, HB5.out.alloc HB5.out.size _⟩

theorem lit_cells {w : World} {A : Option Addr} (h : Reads w 1 A 8 (strs litArgs)) : ∃ ad, A = some ad ∧ w.cell? ad = some (.string ⟨#[42]⟩) ∧ w.cell? ⟨ad.block, ad.off + 1, none⟩ = some (.string ⟨#[92, 42]⟩) ∧
    w.cell? ⟨ad.block, ad.off + 2, none⟩ = some (.string ⟨#[63]⟩) ∧ w.cell? ⟨ad.block, ad.off + 3, none⟩ = some (.string ⟨#[92, 63]⟩) ∧ w.cell? ⟨ad.block, ad.off + 4, none⟩ = some (.string ⟨#[91]⟩) ∧ w.cell? ⟨ad.block, ad.off + 5, none⟩ = some (.string ⟨#[92, 91]⟩) ∧
    w.cell? ⟨ad.block, ad.off + 6, none⟩ = some (.string ⟨#[92]⟩) ∧ w.cell? ⟨ad.block, ad.off + 7, none⟩ = some (.string ⟨#[92, 92]⟩) := by
  obtain ⟨ad, rfl, hc⟩ := h.2 (by omega)
  exact ⟨ad, rfl, hc 0 _ rfl, hc 1 _ rfl, hc 2 _ rfl, hc 3 _ rfl, hc 4 _ rfl, hc 5 _ rfl, hc 6 _ rfl, hc 7 _ rfl⟩

theorem OwnM.cellAt {w : World} {base : Nat} {e : TypeId} {q n c : Nat} {xs : List Value} (h : OwnM w base e (.slice (some ⟨q, 0, none⟩) n c) xs) (j : Nat) (u : Value) (hj : xs[j]? = some u) : w.cell? ⟨q, j, none⟩ = some u := by
  rcases h with ⟨h, _⟩ | ⟨g, cap, cur, fz, hv, hb, hg, hnc, hcm, hcs, ht, _⟩
  · cases h
  · injection hv with h1 h2 h3
    injection h1 with h1
    injection h1 with h1
    subst h1
    rw [cell_of_row w q j cur e fz hg]
    have h2 := hj
    rw [← ht, List.getElem?_take] at h2
    split at h2
    · simpa using h2
    · cases h2
theorem run_made4 (w : World) : (Instr.makeSlice 38 (.int .i64 0) (.int .i64 4)).run Tryz.prog w = .ok (.slice (some ⟨w.heap.size, 0, none⟩) 0 4) (w.alloc (.cells (madeCells #[.string ByteArray.empty] 4) 9)) := by
  obtain ⟨i0, hi, hz0, hz1, hz2⟩ := info_parts info_strL
  have := run_make (P := Tryz.prog) w 38 9 i0 _ Tryz.underlying38 hi hz0 .i64 .i64 0 4 (by decide) (by decide) (by rw [hz2]; decide) (by decide)
  rw [hz1] at this
  exact this

theorem zero_table : Tryz.zeroCells103 = (List.replicate 257 (Value.slice none 0 0)).toArray := by kernel_rfl
theorem zero_size : Tryz.zeroCells103.size = 257 := by rw [zero_table, List.size_toArray, List.length_replicate]
theorem zero_one : (Tryz.zeroCells103).all (·.oneCell') = true := by kernel_rfl
theorem info_table : (Tryz.prog.info? 103).map (·.size) = some 257 := by kernel_rfl
/-- The table as it is made: no letter has another text. -/
noncomputable def table0 (t : Nat) : Array Value := Tryz.zeroCells103.setIfInBounds 256 (.slice (some ⟨t, 0, none⟩) 0 4)
theorem table0_size (t : Nat) : (table0 t).size = 257 := by unfold table0; rw [Array.size_setIfInBounds, zero_size]
theorem table0_one (t : Nat) : (table0 t).all (·.oneCell') = true := by
  have h := zero_one
  rw [Array.all_eq_true_iff_forall_mem] at h ⊢
  intro x hx
  unfold table0 at hx
  rcases Array.mem_or_eq_of_mem_setIfInBounds hx with h1 | h1
  · exact h _ h1
  · rw [h1]; rfl

def idxK : Nat → Int
  | 0 => 6
  | 1 => 4
  | 2 => 2
  | 3 => 0
  | _ => -2
/-- the letters, as the table takes them -/
def keys : List UInt8 := [92, 91, 63, 42]
def keyAt (j : Nat) : Nat := (keys.getD j 0).toNat
/-- The table when k letters are in. -/
structure TB (w0 : World) (g k n : Nat) (tv : Value) (f cp : Nat → Nat) (W : World) : Prop where
  below : Below w0.heap.size w0 W
  hg : w0.heap.size ≤ g
  lt : g < W.heap.size
  own : W.ownsRow w0.heap.size 9 1 tv n (strs ((keys.take n).map fun c => [c]))
  tvg : tv.ownBlock ≠ some g
  tab : ∃ arr, W.heap[g]? = some (.cells arr 103 (0, 0)) ∧ arr.size = 257 ∧ arr[256]? = some tv ∧ (∀ c, c < 256 → (∀ j, j < k → keyAt j ≠ c) → arr[c]? = some (.slice none 0 0)) ∧
    ∀ j, j < k → arr[keyAt j]? = some (.slice (some ⟨f j, 0, none⟩) 2 (cp j))
  txt : ∀ j, j < k → f j < W.heap.size ∧ f j ≠ g ∧ tv.ownBlock ≠ some (f j) ∧ w0.heap.size ≤ f j ∧ W.cell? ⟨f j, 0, none⟩ = some (.int .u8 92) ∧ W.cell? ⟨f j, 1, none⟩ = some (.int .u8 (keyAt j))

theorem keys_apart : ∀ k, k < 4 → ∀ j, j < k → keyAt j ≠ keyAt k := by decide
theorem own_setCell {w : World} {base : Nat} {e : TypeId} {size n : Nat} {v u : Value} {xs : List Value} (h : w.ownsRow base e size v n xs) (p : Addr) (hne : v.ownBlock ≠ some p.block) : (w.setCell p u).ownsRow base e size v n xs :=
  h.kept (row := some p.block) ⟨rfl, rfl, rfl, by simp, fun k hk hn => heap_setCell_other _ _ _ _ (fun e => hn (by rw [e]))⟩ (by
    cases hv : v.ownBlock with
    | none => exact .inl rfl
    | some k => exact .inr (fun e => hne (by rw [hv, ← e])))

theorem TB.start (w : World) : TB w (w.heap.size + 1) 0 0 (.slice (some ⟨w.heap.size, 0, none⟩) 0 4) (fun _ => 0) (fun _ => 0)
    (((w.alloc (.cells (madeCells #[.string ByteArray.empty] 4) 9)).alloc (.cells Tryz.zeroCells103 103)).setRow (w.heap.size + 1) (table0 w.heap.size)) := by
  have hq := heap_alloc2_new w (Obj.cells (madeCells #[.string ByteArray.empty] 4) 9) (Obj.cells Tryz.zeroCells103 103)
  have hr := setRow_heap _ _ _ (table0 w.heap.size) _ _ hq
  have hb2 : Below w.heap.size w ((w.alloc (.cells (madeCells #[.string ByteArray.empty] 4) 9)).alloc (.cells Tryz.zeroCells103 103)) := ((Below.refl _ _).alloc (Nat.le_refl _) _).alloc (by simp) _
  refine ⟨⟨hb2.os, hb2.tape, hb2.output, by simp; omega, fun b hb => ?_⟩, by omega, by simp, ?_, ?_, ⟨_, hr, table0_size _, ?_, fun c hc _ => ?_, fun j hj => by omega⟩, fun j hj => by omega⟩
  · rw [← hb2.block b hb]
    unfold World.setRow
    simp only
    rw [Array.getElem?_modify, if_neg (by omega)]
  · refine ⟨rfl, .inr ⟨w.heap.size, 4, madeCells #[.string ByteArray.empty] 4, rfl, Nat.le_refl _, ?_, by omega, by unfold maxLen; omega, by simp [madeCells], rfl⟩⟩
    unfold World.setRow
    simp only
    rw [Array.getElem?_modify, if_neg (by omega)]
    exact heap_alloc2_old _ _ _
  · intro h
    have : w.heap.size = w.heap.size + 1 := by injection h
    omega
  · unfold table0
    rw [Array.getElem?_setIfInBounds, if_pos rfl, if_pos (by rw [zero_size]; omega)]
  · unfold table0
    rw [Array.getElem?_setIfInBounds, if_neg (by omega), zero_table, List.getElem?_toArray, List.getElem?_replicate, if_pos (by omega)]

section
variable {w0 W W5 : World} {g k n : Nat} {tv v1 : Value} {f cp : Nat → Nat}
theorem TB.keep (h : TB w0 g k n tv f cp W) (hb : Below W.heap.size W W5) : TB w0 g k n tv f cp W5 := by
  obtain ⟨arr, a1, a2, a3, a4, a5⟩ := h.tab
  refine ⟨h.below.trans (hb.mono h.below.size), h.hg, Nat.lt_of_lt_of_le h.lt hb.size, own_below h.own hb, h.tvg, ⟨arr, (hb.block _ h.lt).trans a1, a2, a3, a4, a5⟩, fun j hj => ?_⟩
  obtain ⟨b1, b2, b3, b4, b5, b6⟩ := h.txt j hj
  exact ⟨Nat.lt_of_lt_of_le b1 hb.size, b2, b3, b4, (hb.cell (World.block_lt_of_cell? _ _ b5)).trans b5, (hb.cell (World.block_lt_of_cell? _ _ b6)).trans b6⟩
/-- one text more in the list -/
theorem TB.more (h : TB w0 g k n tv f cp W) (ho : W5.ownsRow w0.heap.size 9 1 v1 (n + 1) (strs ((keys.take (n + 1)).map fun c => [c]))) (hg : W.grownBy W5 tv.ownBlock) (hl : Lies W tv v1) :
    TB w0 g k (n + 1) v1 f cp (W5.setCell ⟨g, 256, none⟩ v1) := by
  obtain ⟨arr, a1, a2, a3, a4, a5⟩ := h.tab
  have hgl := h.lt
  have hne : ∀ x, x < W.heap.size → tv.ownBlock ≠ some x → v1.ownBlock ≠ some x := fun x hx ht hv => by
    rcases hl x hv with q | q
    · exact ht q
    · omega
  have hb : Below w0.heap.size w0 W5 := h.below.grown hg h.below.size (fun x hx => (h.own.lt x hx).1)
  have hg5 : W5.heap[g]? = some (.cells arr 103 (0, 0)) := (hg.block _ hgl (fun e => h.tvg e.symm)).trans a1
  have hs := heap_setCell_same W5 g 256 arr 103 v1 hg5
  refine ⟨hb.setCell (p := ⟨g, 256, none⟩) h.hg _, h.hg, by simp; exact Nat.lt_of_lt_of_le hgl hg.size, ?_, hne g hgl h.tvg, ⟨_, hs, by simp [a2], ?_, fun c hc hj => ?_, fun j hj => ?_⟩, fun j hj => ?_⟩
  · exact own_setCell ho _ (hne g hgl h.tvg)
  · rw [Array.getElem?_setIfInBounds, if_pos rfl, if_pos (by omega)]
  · rw [Array.getElem?_setIfInBounds, if_neg (by omega)]
    exact a4 c hc hj
  · have : keyAt j < 256 := by unfold keyAt; exact UInt8.toNat_lt _
    rw [Array.getElem?_setIfInBounds, if_neg (by omega)]
    exact a5 j hj
  · obtain ⟨b1, b2, b3, b4, b5, b6⟩ := h.txt j hj
    have hk : (W5.setCell ⟨g, 256, none⟩ v1).heap[f j]? = W.heap[f j]? := (heap_setCell_other _ _ _ _ b2).trans (hg.block _ b1 (fun e => b3 e.symm))
    refine ⟨by simp; exact Nat.lt_of_lt_of_le b1 hg.size, b2, hne _ b1 b3, b4, ?_, ?_⟩
    · rw [← b5]; unfold World.cell?; simp only [hk]
    · rw [← b6]; unfold World.cell?; simp only [hk]
/-- one letter more in the table -/
theorem TB.put (h : TB w0 g k n tv f cp W) (hk : k < 4) {q c : Nat} (hq : q = W.heap.size) (hb : Below W.heap.size W W5) (hql : q < W5.heap.size) (h0 : W5.cell? ⟨q, 0, none⟩ = some (.int .u8 92)) (h1 : W5.cell? ⟨q, 1, none⟩ = some (.int .u8 (keyAt k))) :
    TB w0 g (k + 1) n tv (fun j => if j = k then q else f j) (fun j => if j = k then c else cp j) (W5.setCell ⟨g, keyAt k, none⟩ (.slice (some ⟨q, 0, none⟩) 2 c)) := by
  have h5 := h.keep hb
  obtain ⟨arr, a1, a2, a3, a4, a5⟩ := h5.tab
  have hkey : keyAt k < 256 := by unfold keyAt; exact UInt8.toNat_lt _
  have hinj : ∀ j, j < k → keyAt j ≠ keyAt k := by
    intro j hj
    exact keys_apart k hk j hj
  have hs := heap_setCell_same W5 g (keyAt k) arr 103 (.slice (some ⟨q, 0, none⟩) 2 c) a1
  have hgq : g ≠ q := by have := h.lt; omega
  refine ⟨h5.below.setCell (p := ⟨g, keyAt k, none⟩) h.hg _, h.hg, by simp; exact h5.lt, own_setCell h5.own _ h5.tvg, h5.tvg, ⟨_, hs, by simp [a2], ?_, fun c hc hj => ?_, fun j hj => ?_⟩, fun j hj => ?_⟩
  · rw [Array.getElem?_setIfInBounds, if_neg (by omega)]; exact a3
  · rw [Array.getElem?_setIfInBounds, if_neg (hj k (by omega))]
    exact a4 c hc (fun j hj' => hj j (by omega))
  · by_cases e : j = k
    · subst e
      rw [Array.getElem?_setIfInBounds, if_pos rfl, if_pos (by omega), if_pos rfl, if_pos rfl]
    · rw [Array.getElem?_setIfInBounds, if_neg (fun q => hinj j (by omega) q.symm), if_neg e, if_neg e]
      exact a5 j (by omega)
  · by_cases e : j = k
    · subst e
      rw [if_pos rfl]
      have hh : (W5.setCell ⟨g, keyAt j, none⟩ (.slice (some ⟨q, 0, none⟩) 2 c)).heap[q]? = W5.heap[q]? := heap_setCell_other _ _ _ _ (fun e => hgq e.symm)
      refine ⟨by simp; exact hql, fun e => hgq e.symm, fun e => ?_, by have := h.below.size; omega, ?_, ?_⟩
      · have := (h.own.lt q e).2; omega
      · rw [← h0]; unfold World.cell?; simp only [hh]
      · rw [← h1]; unfold World.cell?; simp only [hh]
    · rw [if_neg e]
      obtain ⟨b1, b2, b3, b4, b5, b6⟩ := h5.txt j (by omega)
      have hh : (W5.setCell ⟨g, keyAt k, none⟩ (.slice (some ⟨q, 0, none⟩) 2 c)).heap[f j]? = W5.heap[f j]? := heap_setCell_other _ _ _ _ b2
      refine ⟨by simp; exact b1, b2, b3, b4, ?_, ?_⟩
      · rw [← b5]; unfold World.cell?; simp only [hh]
      · rw [← b6]; unfold World.cell?; simp only [hh]
end

/-- The table whole. -/
def keysL : List (List UInt8) := [[92], [91], [63], [42]]
def TabL (lo g : Nat) (W : World) : Prop :=
  lo ≤ g ∧ (∃ A c, W.cell? ⟨g, 256, none⟩ = some (.slice A 4 c) ∧ Reads W 1 A 4 (strs keysL) ∧ ∀ ad, A = some ad → lo ≤ ad.block) ∧
    (∀ c, c < 256 → (∀ j, j < 4 → keyAt j ≠ c) → W.cell? ⟨g, c, none⟩ = some (.slice none 0 0)) ∧
    ∀ j, j < 4 → ∃ q cp, W.cell? ⟨g, keyAt j, none⟩ = some (.slice (some ⟨q, 0, none⟩) 2 cp) ∧ lo ≤ q ∧ W.cell? ⟨q, 0, none⟩ = some (.int .u8 92) ∧ W.cell? ⟨q, 1, none⟩ = some (.int .u8 (keyAt j))
theorem cell_same {W W' : World} {a : Addr} {v : Value} (h : W.cell? a = some v) (hk : ∀ k, k < W.heap.size → k = a.block → W'.heap[k]? = W.heap[k]?) : W'.cell? a = some v := by
  have := hk a.block (World.block_lt_of_cell? _ _ h) rfl
  rw [← h]; unfold World.cell?; simp only [this]
theorem TabL.kept {lo g : Nat} {W W' : World} (h : TabL lo g W) (hk : ∀ k, lo ≤ k → k < W.heap.size → W'.heap[k]? = W.heap[k]?) : TabL lo g W' := by
  obtain ⟨h1, ⟨A, c, h2, h3, h4⟩, h5, h6⟩ := h
  refine ⟨h1, ⟨A, c, cell_same h2 (fun k hl e => hk k (by subst e; exact h1) hl), ⟨h3.1, fun h => ?_⟩, h4⟩, fun c hc hj => cell_same (h5 c hc hj) (fun k hl e => hk k (by subst e; exact h1) hl), fun j hj => ?_⟩
  · obtain ⟨ad, e, hr⟩ := h3.2 h
    exact ⟨ad, e, fun j u hu => cell_same (hr j u hu) (fun k hl e' => hk k (by subst e'; rw [block_of_add]; exact h4 ad e) hl)⟩
  · obtain ⟨q, cp, k1, k2, k3, k4⟩ := h6 j hj
    exact ⟨q, cp, cell_same k1 (fun k hl e => hk k (by subst e; exact h1) hl), k2, cell_same k3 (fun k hl e => hk k (by subst e; exact k2) hl), cell_same k4 (fun k hl e => hk k (by subst e; exact k2) hl)⟩
theorem TB.whole {w0 W : World} {g : Nat} {tv : Value} {f cp : Nat → Nat} (h : TB w0 g 4 4 tv f cp W) : TabL w0.heap.size g W := by
  obtain ⟨arr, a1, a2, a3, a4, a5⟩ := h.tab
  have ho := h.own
  obtain ⟨A, c, rfl⟩ : ∃ A c, tv = .slice A 4 c := by
    rcases ho.2 with ⟨h, h0⟩ | ⟨g', cap', cur', h, _⟩
    · omega
    · exact ⟨_, _, h⟩
  refine ⟨h.hg, ⟨A, c, (cell_of_row W g 256 arr _ _ a1).trans a3, Reads.of_own ho, fun ad e => (ho.lt ad.block (by rw [e]; rfl)).1⟩, fun c hc hj => (cell_of_row W g c arr _ _ a1).trans (a4 c hc hj), fun j hj => ?_⟩
  obtain ⟨b1, b2, b3, b4, b5, b6⟩ := h.txt j hj
  exact ⟨f j, cp j, (cell_of_row W g _ arr _ _ a1).trans (a5 j hj), b4, b5, b6⟩

set_option maxRecDepth 100000 in
set_option maxHeartbeats 4000000 in
theorem build_lit (b d : Nat) (D : Option Addr) (w : World) (hb : w.cell? ⟨b, 4, none⟩ = some (.slice D 8 d)) (hR : Reads w 1 D 8 (strs litArgs)) :
    Calls Tryz.prog 53 #[.pointer (some ⟨b, 0, none⟩)] w fun e w' => ∃ g, e = .returned (.iface 104 (.pointer (some ⟨g, 0, none⟩))) ∧ TabL w.heap.size g w' ∧ Below w.heap.size w w' := by
  obtain ⟨ad, rfl, l0, l1, l2, l3, l4, l5, l6, l7⟩ := lit_cells hR
  have HL := Lib.hid (And.intro l0 (And.intro l1 (And.intro l2 (And.intro l3 (And.intro l4 (And.intro l5 (And.intro l6 l7)))))))
  clear l0 l1 l2 l3 l4 l5 l6 l7 hR
  go_enter Tryz.func53, Tryz.ntmps53
  go_wp2_with (fail)
  go_loopw [4, 5] (fun t4 t5 W => ∃ k : Nat, k ≤ 4 ∧ t5 = .int .i64 (2 * k : Nat) ∧ t4 = .bool (k == 0) ∧ W = w) (fun _ t5 _ => 8 - (intOf t5).toNat)
  case atStart => exact ⟨0, by omega, rfl, rfl, rfl⟩
  case round =>
    obtain ⟨k, hk, rfl, rfl, rfl⟩ := hrel
    obtain ⟨l0, l1, l2, l3, l4, l5, l6, l7⟩ := HL.out
    match k, hk with
    | 0, _ =>
      go_wp2_with (fail)
      go_roundw
      case rel => exact ⟨1, by omega, rfl, rfl, by first | trivial | rfl⟩
      case measure => simp [intOf]
    | 1, _ =>
      go_wp2_with (fail)
      go_roundw
      case rel => exact ⟨2, by omega, rfl, rfl, by first | trivial | rfl⟩
      case measure => simp [intOf]
    | 2, _ =>
      go_wp2_with (fail)
      go_roundw
      case rel => exact ⟨3, by omega, rfl, rfl, by first | trivial | rfl⟩
      case measure => simp [intOf]
    | 3, _ =>
      go_wp2_with (fail)
      go_roundw
      case rel => exact ⟨4, by omega, rfl, rfl, by first | trivial | rfl⟩
      case measure => simp [intOf]
    | 4, _ =>
      have hm4 := run_made4 wr
      have hsz : (Tryz.prog.info? 103).map (·.size) = some (table0 wr.heap.size).size := by rw [table0_size]; exact info_table
      have hq := heap_alloc2_new wr (Obj.cells (madeCells #[.string ByteArray.empty] 4) 9) (Obj.cells Tryz.zeroCells103 103)
      have HT := Lib.hid (TB.start wr)
      go_wp2_with (refine wpList_store_row rfl 103 _ _ rfl (wr.heap.size + 1) (table0 wr.heap.size) rfl rfl 103 _ hq hsz (by rw [zero_size, table0_size]) (table0_one _) ?_)
      clear hq hsz hm4 l0 l1 l2 l3 l4 l5 l6 l7
      generalize (((wr.alloc (.cells (madeCells #[.string ByteArray.empty] 4) 9)).alloc (.cells Tryz.zeroCells103 103)).setRow (wr.heap.size + 1) (table0 wr.heap.size)) = wt at *
      obtain ⟨w0, HW0⟩ : ∃ w0 : World, Hid (w0 = wr) := ⟨wr, Lib.hid rfl⟩
      rw [← HW0.out] at HT HL ⊢
      go_loopw [12] (fun t12 W => ∃ (k : Nat) (tv : Value) (f cp : Nat → Nat), k ≤ 4 ∧ t12 = .int .i64 (idxK k) ∧ Hid (TB w0 (w0.heap.size + 1) k k tv f cp W)) (fun t12 _ => (intOf t12 + 2).toNat)
      case atStart => exact ⟨0, _, _, _, by omega, rfl, HT⟩
      case round =>
        clear HT
        obtain ⟨k, tv, f, cp, hk, rfl, HT⟩ := hrel
        obtain ⟨i0, hi0, hz0, hz1, hz2⟩ := info_parts info_strL
        have HI0 := Lib.hid hi0
        clear hi0
        obtain ⟨arr, a1, a2, a3, a4, a5⟩ := HT.out.tab
        have zt := (cell_of_row wr (w0.heap.size + 1) 256 arr _ _ a1).trans a3
        have fz : ∀ j, wr.frozen? ⟨w0.heap.size + 1, j, none⟩ = false := fun j => frozen_of_row wr _ _ _ _ a1
        match k, hk with
        | 0, _ =>
          rw [show idxK 0 = 6 from rfl]
          have z0 := (cell_of_row wr (w0.heap.size + 1) 92 arr _ _ a1).trans (a4 92 (by decide) (by decide))
          have lo : wr.cell? ⟨ad.block, ad.off + 6, none⟩ = some (.string ⟨#[92]⟩) := by
            have h := HL.out.2.2.2.2.2.2.1
            exact (HT.out.below.cell (World.block_lt_of_cell? _ _ h)).trans h
          have ln : wr.cell? ⟨ad.block, ad.off + 7, none⟩ = some (.string ⟨#[92, 92]⟩) := by
            have h := HL.out.2.2.2.2.2.2.2
            exact (HT.out.below.cell (World.block_lt_of_cell? _ _ h)).trans h
          clear a1 a2 a3 a4 a5
          have hq1 : ∀ W, (Go.binOp .eql 37 (.slice none 0 0) (.slice none 0 0)).run Tryz.prog W = .ok (.bool true) W := fun _ => rfl
          have hc := run_convert_laid (P := Tryz.prog) wr 37 5 9 Tryz.underlying37 Tryz.underlying5 Tryz.underlying9 [92] 1 1 rfl (0, 0)
          simp only [List.map_cons, List.map_nil] at hc
          have HT2 := HT.out.keep (W5 := (wr.alloc (.cells #[.int .u8 92] 5 (0, 0))).alloc (.cells #[.string ⟨#[92]⟩] 9)) (((Below.refl _ _).alloc (Nat.le_refl _) _).alloc (by simp) _)
          have hn1 := heap_alloc2_new wr (.cells #[.int .u8 92] 5 (0, 0)) (.cells #[.string ⟨#[92]⟩] 9)
          have hnews : ∀ j u, (strs [[(92 : UInt8)]])[j]? = some u → ((wr.alloc (.cells #[.int .u8 92] 5 (0, 0))).alloc (.cells #[.string ⟨#[92]⟩] 9)).cell? ((⟨wr.heap.size + 1, 0, none⟩ : Addr).add j) = some u := by
            intro j u hj
            match j, hj with
            | 0, hj =>
              have e : u = .string ⟨#[92]⟩ := by simp [strs] at hj; exact hj.symm
              subst e
              exact (cell_of_row _ _ 0 _ _ _ hn1).trans rfl
            | j + 1, hj => simp [strs] at hj
          have HN := Lib.hid (And.intro HT2 hnews)
          clear HT2 hnews hn1
          go_wp2_with (at_builtin; refine wpList_append_two rfl _ _ 38 rfl w0.heap.size 9 i0 _ 1 16 Tryz.underlying38 HI0.out hz0 hz1 hz2 rfl (by decide) tv 0 _ rfl HN.out.1.own ⟨wr.heap.size + 1, 0, none⟩ 1 1 (strs [[(92 : UInt8)]]) rfl rfl HN.out.2 ?c1 ?c3 ?c4 ?c5 ?_)
          case c1 =>
            intro u hu
            simp [strs] at hu
            rw [hu]
            rfl
          case c3 => unfold maxLen; omega
          case c4 => omega
          case c5 =>
            have h1 := HN.out.1.below.size
            exact h1
          intro v1 w5 hown5 hg5 hl5
          obtain ⟨A5, c5, rfl⟩ : ∃ A c, v1 = .slice A (0 + 1) c := by
            rcases hown5.2 with ⟨h, h0⟩ | ⟨g', cap', cur', h, _⟩
            · omega
            · exact ⟨_, _, h⟩
          have HT3 := HN.out.1.more hown5 hg5 hl5
          have ce5 : w5.cell? ⟨w0.heap.size + 1, 256, none⟩ = some tv := by
            obtain ⟨r5, q1, q2, q3, q4⟩ := HN.out.1.tab
            exact (cell_of_row w5 _ 256 _ _ _ ((hg5.block _ HN.out.1.lt (fun e => HN.out.1.tvg e.symm)).trans q1)).trans q3
          have fz5 : w5.frozen? ⟨w0.heap.size + 1, 256, none⟩ = false := by
            obtain ⟨r5, q1, _⟩ := HN.out.1.tab
            exact frozen_of_row _ _ _ _ _ ((hg5.block _ HN.out.1.lt (fun e => HN.out.1.tvg e.symm)).trans q1)
          obtain ⟨cc, C, hcv, hom⟩ := conv_bytes_m (P := Tryz.prog) (w5.setCell ⟨w0.heap.size + 1, 256, none⟩ (.slice A5 (0 + 1) c5)) 9 37 5 Tryz.underlying9 Tryz.underlying37 Tryz.underlying5 [92, 92] (by unfold maxLen; simp)
          have hsz : (w5.setCell ⟨w0.heap.size + 1, 256, none⟩ (.slice A5 (0 + 1) c5)).heap.size = w5.heap.size := by simp
          have hom' := hom
          rw [hsz] at hom'
          have hb7 : Below (w5.setCell ⟨w0.heap.size + 1, 256, none⟩ (.slice A5 (0 + 1) c5)).heap.size (w5.setCell ⟨w0.heap.size + 1, 256, none⟩ (.slice A5 (0 + 1) c5)) ((w5.setCell ⟨w0.heap.size + 1, 256, none⟩ (.slice A5 (0 + 1) c5)).alloc (.cells C 5 (cc, cc + 1))).drew := ((Below.refl _ _).alloc (Nat.le_refl _) _).drew
          have fz7 : ((w5.setCell ⟨w0.heap.size + 1, 256, none⟩ (.slice A5 (0 + 1) c5)).alloc (.cells C 5 (cc, cc + 1))).frozen? ⟨w0.heap.size + 1, 92, none⟩ = false := by
            obtain ⟨r5, q1, _⟩ := (HT3.keep hb7).tab
            exact frozen_of_row (((w5.setCell ⟨w0.heap.size + 1, 256, none⟩ (.slice A5 (0 + 1) c5)).alloc (.cells C 5 (cc, cc + 1))).drew) _ _ _ _ q1
          have ce7 : ((w5.setCell ⟨w0.heap.size + 1, 256, none⟩ (.slice A5 (0 + 1) c5)).alloc (.cells C 5 (cc, cc + 1))).cell? ⟨w0.heap.size + 1, 92, none⟩ = some (.slice none 0 0) := by
            obtain ⟨r5, q1, q2, q3, q4, q5⟩ := (HT3.keep hb7).tab
            exact (cell_of_row (((w5.setCell ⟨w0.heap.size + 1, 256, none⟩ (.slice A5 (0 + 1) c5)).alloc (.cells C 5 (cc, cc + 1))).drew) _ 92 _ _ _ q1).trans (q4 92 (by decide) (by decide))
          have HT4 := HT3.put (by omega) (q := w5.heap.size) hsz.symm hb7 (c := cc) (by simp) (hom'.cellAt 0 _ rfl) (hom'.cellAt 1 _ rfl)
          have H4 := Lib.hid HT4
          clear hown5 hg5 hl5 HT3 hom hom' hb7 HT4 HN hsz
          go_wp2_with (fail)
          go_roundw
          case rel => exact ⟨0 + 1, _, _, _, by omega, rfl, H4⟩
          case measure => simp [intOf]
        | 1, _ =>
          rw [show idxK 1 = 4 from rfl]
          have z0 := (cell_of_row wr (w0.heap.size + 1) 91 arr _ _ a1).trans (a4 91 (by decide) (by decide))
          have lo : wr.cell? ⟨ad.block, ad.off + 4, none⟩ = some (.string ⟨#[91]⟩) := by
            have h := HL.out.2.2.2.2.1
            exact (HT.out.below.cell (World.block_lt_of_cell? _ _ h)).trans h
          have ln : wr.cell? ⟨ad.block, ad.off + 5, none⟩ = some (.string ⟨#[92, 91]⟩) := by
            have h := HL.out.2.2.2.2.2.1
            exact (HT.out.below.cell (World.block_lt_of_cell? _ _ h)).trans h
          clear a1 a2 a3 a4 a5
          have hq1 : ∀ W, (Go.binOp .eql 37 (.slice none 0 0) (.slice none 0 0)).run Tryz.prog W = .ok (.bool true) W := fun _ => rfl
          have hc := run_convert_laid (P := Tryz.prog) wr 37 5 9 Tryz.underlying37 Tryz.underlying5 Tryz.underlying9 [91] 1 1 rfl (0, 0)
          simp only [List.map_cons, List.map_nil] at hc
          have HT2 := HT.out.keep (W5 := (wr.alloc (.cells #[.int .u8 91] 5 (0, 0))).alloc (.cells #[.string ⟨#[91]⟩] 9)) (((Below.refl _ _).alloc (Nat.le_refl _) _).alloc (by simp) _)
          have hn1 := heap_alloc2_new wr (.cells #[.int .u8 91] 5 (0, 0)) (.cells #[.string ⟨#[91]⟩] 9)
          have hnews : ∀ j u, (strs [[(91 : UInt8)]])[j]? = some u → ((wr.alloc (.cells #[.int .u8 91] 5 (0, 0))).alloc (.cells #[.string ⟨#[91]⟩] 9)).cell? ((⟨wr.heap.size + 1, 0, none⟩ : Addr).add j) = some u := by
            intro j u hj
            match j, hj with
            | 0, hj =>
              have e : u = .string ⟨#[91]⟩ := by simp [strs] at hj; exact hj.symm
              subst e
              exact (cell_of_row _ _ 0 _ _ _ hn1).trans rfl
            | j + 1, hj => simp [strs] at hj
          have HN := Lib.hid (And.intro HT2 hnews)
          clear HT2 hnews hn1
          go_wp2_with (at_builtin; refine wpList_append_two rfl _ _ 38 rfl w0.heap.size 9 i0 _ 1 16 Tryz.underlying38 HI0.out hz0 hz1 hz2 rfl (by decide) tv 1 _ rfl HN.out.1.own ⟨wr.heap.size + 1, 0, none⟩ 1 1 (strs [[(91 : UInt8)]]) rfl rfl HN.out.2 ?c1 ?c3 ?c4 ?c5 ?_)
          case c1 =>
            intro u hu
            simp [strs] at hu
            rw [hu]
            rfl
          case c3 => unfold maxLen; omega
          case c4 => omega
          case c5 =>
            have h1 := HN.out.1.below.size
            exact h1
          intro v1 w5 hown5 hg5 hl5
          obtain ⟨A5, c5, rfl⟩ : ∃ A c, v1 = .slice A (1 + 1) c := by
            rcases hown5.2 with ⟨h, h0⟩ | ⟨g', cap', cur', h, _⟩
            · omega
            · exact ⟨_, _, h⟩
          have HT3 := HN.out.1.more hown5 hg5 hl5
          have ce5 : w5.cell? ⟨w0.heap.size + 1, 256, none⟩ = some tv := by
            obtain ⟨r5, q1, q2, q3, q4⟩ := HN.out.1.tab
            exact (cell_of_row w5 _ 256 _ _ _ ((hg5.block _ HN.out.1.lt (fun e => HN.out.1.tvg e.symm)).trans q1)).trans q3
          have fz5 : w5.frozen? ⟨w0.heap.size + 1, 256, none⟩ = false := by
            obtain ⟨r5, q1, _⟩ := HN.out.1.tab
            exact frozen_of_row _ _ _ _ _ ((hg5.block _ HN.out.1.lt (fun e => HN.out.1.tvg e.symm)).trans q1)
          obtain ⟨cc, C, hcv, hom⟩ := conv_bytes_m (P := Tryz.prog) (w5.setCell ⟨w0.heap.size + 1, 256, none⟩ (.slice A5 (1 + 1) c5)) 9 37 5 Tryz.underlying9 Tryz.underlying37 Tryz.underlying5 [92, 91] (by unfold maxLen; simp)
          have hsz : (w5.setCell ⟨w0.heap.size + 1, 256, none⟩ (.slice A5 (1 + 1) c5)).heap.size = w5.heap.size := by simp
          have hom' := hom
          rw [hsz] at hom'
          have hb7 : Below (w5.setCell ⟨w0.heap.size + 1, 256, none⟩ (.slice A5 (1 + 1) c5)).heap.size (w5.setCell ⟨w0.heap.size + 1, 256, none⟩ (.slice A5 (1 + 1) c5)) ((w5.setCell ⟨w0.heap.size + 1, 256, none⟩ (.slice A5 (1 + 1) c5)).alloc (.cells C 5 (cc, cc + 1))).drew := ((Below.refl _ _).alloc (Nat.le_refl _) _).drew
          have fz7 : ((w5.setCell ⟨w0.heap.size + 1, 256, none⟩ (.slice A5 (1 + 1) c5)).alloc (.cells C 5 (cc, cc + 1))).frozen? ⟨w0.heap.size + 1, 91, none⟩ = false := by
            obtain ⟨r5, q1, _⟩ := (HT3.keep hb7).tab
            exact frozen_of_row (((w5.setCell ⟨w0.heap.size + 1, 256, none⟩ (.slice A5 (1 + 1) c5)).alloc (.cells C 5 (cc, cc + 1))).drew) _ _ _ _ q1
          have ce7 : ((w5.setCell ⟨w0.heap.size + 1, 256, none⟩ (.slice A5 (1 + 1) c5)).alloc (.cells C 5 (cc, cc + 1))).cell? ⟨w0.heap.size + 1, 91, none⟩ = some (.slice none 0 0) := by
            obtain ⟨r5, q1, q2, q3, q4, q5⟩ := (HT3.keep hb7).tab
            exact (cell_of_row (((w5.setCell ⟨w0.heap.size + 1, 256, none⟩ (.slice A5 (1 + 1) c5)).alloc (.cells C 5 (cc, cc + 1))).drew) _ 91 _ _ _ q1).trans (q4 91 (by decide) (by decide))
          have HT4 := HT3.put (by omega) (q := w5.heap.size) hsz.symm hb7 (c := cc) (by simp) (hom'.cellAt 0 _ rfl) (hom'.cellAt 1 _ rfl)
          have H4 := Lib.hid HT4
          clear hown5 hg5 hl5 HT3 hom hom' hb7 HT4 HN hsz
          go_wp2_with (fail)
          go_roundw
          case rel => exact ⟨1 + 1, _, _, _, by omega, rfl, H4⟩
          case measure => simp [intOf]
        | 2, _ =>
          rw [show idxK 2 = 2 from rfl]
          have z0 := (cell_of_row wr (w0.heap.size + 1) 63 arr _ _ a1).trans (a4 63 (by decide) (by decide))
          have lo : wr.cell? ⟨ad.block, ad.off + 2, none⟩ = some (.string ⟨#[63]⟩) := by
            have h := HL.out.2.2.1
            exact (HT.out.below.cell (World.block_lt_of_cell? _ _ h)).trans h
          have ln : wr.cell? ⟨ad.block, ad.off + 3, none⟩ = some (.string ⟨#[92, 63]⟩) := by
            have h := HL.out.2.2.2.1
            exact (HT.out.below.cell (World.block_lt_of_cell? _ _ h)).trans h
          clear a1 a2 a3 a4 a5
          have hq1 : ∀ W, (Go.binOp .eql 37 (.slice none 0 0) (.slice none 0 0)).run Tryz.prog W = .ok (.bool true) W := fun _ => rfl
          have hc := run_convert_laid (P := Tryz.prog) wr 37 5 9 Tryz.underlying37 Tryz.underlying5 Tryz.underlying9 [63] 1 1 rfl (0, 0)
          simp only [List.map_cons, List.map_nil] at hc
          have HT2 := HT.out.keep (W5 := (wr.alloc (.cells #[.int .u8 63] 5 (0, 0))).alloc (.cells #[.string ⟨#[63]⟩] 9)) (((Below.refl _ _).alloc (Nat.le_refl _) _).alloc (by simp) _)
          have hn1 := heap_alloc2_new wr (.cells #[.int .u8 63] 5 (0, 0)) (.cells #[.string ⟨#[63]⟩] 9)
          have hnews : ∀ j u, (strs [[(63 : UInt8)]])[j]? = some u → ((wr.alloc (.cells #[.int .u8 63] 5 (0, 0))).alloc (.cells #[.string ⟨#[63]⟩] 9)).cell? ((⟨wr.heap.size + 1, 0, none⟩ : Addr).add j) = some u := by
            intro j u hj
            match j, hj with
            | 0, hj =>
              have e : u = .string ⟨#[63]⟩ := by simp [strs] at hj; exact hj.symm
              subst e
              exact (cell_of_row _ _ 0 _ _ _ hn1).trans rfl
            | j + 1, hj => simp [strs] at hj
          have HN := Lib.hid (And.intro HT2 hnews)
          clear HT2 hnews hn1
          go_wp2_with (at_builtin; refine wpList_append_two rfl _ _ 38 rfl w0.heap.size 9 i0 _ 1 16 Tryz.underlying38 HI0.out hz0 hz1 hz2 rfl (by decide) tv 2 _ rfl HN.out.1.own ⟨wr.heap.size + 1, 0, none⟩ 1 1 (strs [[(63 : UInt8)]]) rfl rfl HN.out.2 ?c1 ?c3 ?c4 ?c5 ?_)
          case c1 =>
            intro u hu
            simp [strs] at hu
            rw [hu]
            rfl
          case c3 => unfold maxLen; omega
          case c4 => omega
          case c5 =>
            have h1 := HN.out.1.below.size
            exact h1
          intro v1 w5 hown5 hg5 hl5
          obtain ⟨A5, c5, rfl⟩ : ∃ A c, v1 = .slice A (2 + 1) c := by
            rcases hown5.2 with ⟨h, h0⟩ | ⟨g', cap', cur', h, _⟩
            · omega
            · exact ⟨_, _, h⟩
          have HT3 := HN.out.1.more hown5 hg5 hl5
          have ce5 : w5.cell? ⟨w0.heap.size + 1, 256, none⟩ = some tv := by
            obtain ⟨r5, q1, q2, q3, q4⟩ := HN.out.1.tab
            exact (cell_of_row w5 _ 256 _ _ _ ((hg5.block _ HN.out.1.lt (fun e => HN.out.1.tvg e.symm)).trans q1)).trans q3
          have fz5 : w5.frozen? ⟨w0.heap.size + 1, 256, none⟩ = false := by
            obtain ⟨r5, q1, _⟩ := HN.out.1.tab
            exact frozen_of_row _ _ _ _ _ ((hg5.block _ HN.out.1.lt (fun e => HN.out.1.tvg e.symm)).trans q1)
          obtain ⟨cc, C, hcv, hom⟩ := conv_bytes_m (P := Tryz.prog) (w5.setCell ⟨w0.heap.size + 1, 256, none⟩ (.slice A5 (2 + 1) c5)) 9 37 5 Tryz.underlying9 Tryz.underlying37 Tryz.underlying5 [92, 63] (by unfold maxLen; simp)
          have hsz : (w5.setCell ⟨w0.heap.size + 1, 256, none⟩ (.slice A5 (2 + 1) c5)).heap.size = w5.heap.size := by simp
          have hom' := hom
          rw [hsz] at hom'
          have hb7 : Below (w5.setCell ⟨w0.heap.size + 1, 256, none⟩ (.slice A5 (2 + 1) c5)).heap.size (w5.setCell ⟨w0.heap.size + 1, 256, none⟩ (.slice A5 (2 + 1) c5)) ((w5.setCell ⟨w0.heap.size + 1, 256, none⟩ (.slice A5 (2 + 1) c5)).alloc (.cells C 5 (cc, cc + 1))).drew := ((Below.refl _ _).alloc (Nat.le_refl _) _).drew
          have fz7 : ((w5.setCell ⟨w0.heap.size + 1, 256, none⟩ (.slice A5 (2 + 1) c5)).alloc (.cells C 5 (cc, cc + 1))).frozen? ⟨w0.heap.size + 1, 63, none⟩ = false := by
            obtain ⟨r5, q1, _⟩ := (HT3.keep hb7).tab
            exact frozen_of_row (((w5.setCell ⟨w0.heap.size + 1, 256, none⟩ (.slice A5 (2 + 1) c5)).alloc (.cells C 5 (cc, cc + 1))).drew) _ _ _ _ q1
          have ce7 : ((w5.setCell ⟨w0.heap.size + 1, 256, none⟩ (.slice A5 (2 + 1) c5)).alloc (.cells C 5 (cc, cc + 1))).cell? ⟨w0.heap.size + 1, 63, none⟩ = some (.slice none 0 0) := by
            obtain ⟨r5, q1, q2, q3, q4, q5⟩ := (HT3.keep hb7).tab
            exact (cell_of_row (((w5.setCell ⟨w0.heap.size + 1, 256, none⟩ (.slice A5 (2 + 1) c5)).alloc (.cells C 5 (cc, cc + 1))).drew) _ 63 _ _ _ q1).trans (q4 63 (by decide) (by decide))
          have HT4 := HT3.put (by omega) (q := w5.heap.size) hsz.symm hb7 (c := cc) (by simp) (hom'.cellAt 0 _ rfl) (hom'.cellAt 1 _ rfl)
          have H4 := Lib.hid HT4
          clear hown5 hg5 hl5 HT3 hom hom' hb7 HT4 HN hsz
          go_wp2_with (fail)
          go_roundw
          case rel => exact ⟨2 + 1, _, _, _, by omega, rfl, H4⟩
          case measure => simp [intOf]
        | 3, _ =>
          rw [show idxK 3 = 0 from rfl]
          have z0 := (cell_of_row wr (w0.heap.size + 1) 42 arr _ _ a1).trans (a4 42 (by decide) (by decide))
          have lo : wr.cell? ad = some (.string ⟨#[42]⟩) := by
            have h := HL.out.1
            exact (HT.out.below.cell (World.block_lt_of_cell? _ _ h)).trans h
          have ln : wr.cell? ⟨ad.block, ad.off + 1, none⟩ = some (.string ⟨#[92, 42]⟩) := by
            have h := HL.out.2.1
            exact (HT.out.below.cell (World.block_lt_of_cell? _ _ h)).trans h
          clear a1 a2 a3 a4 a5
          have hq1 : ∀ W, (Go.binOp .eql 37 (.slice none 0 0) (.slice none 0 0)).run Tryz.prog W = .ok (.bool true) W := fun _ => rfl
          have hc := run_convert_laid (P := Tryz.prog) wr 37 5 9 Tryz.underlying37 Tryz.underlying5 Tryz.underlying9 [42] 1 1 rfl (0, 0)
          simp only [List.map_cons, List.map_nil] at hc
          have HT2 := HT.out.keep (W5 := (wr.alloc (.cells #[.int .u8 42] 5 (0, 0))).alloc (.cells #[.string ⟨#[42]⟩] 9)) (((Below.refl _ _).alloc (Nat.le_refl _) _).alloc (by simp) _)
          have hn1 := heap_alloc2_new wr (.cells #[.int .u8 42] 5 (0, 0)) (.cells #[.string ⟨#[42]⟩] 9)
          have hnews : ∀ j u, (strs [[(42 : UInt8)]])[j]? = some u → ((wr.alloc (.cells #[.int .u8 42] 5 (0, 0))).alloc (.cells #[.string ⟨#[42]⟩] 9)).cell? ((⟨wr.heap.size + 1, 0, none⟩ : Addr).add j) = some u := by
            intro j u hj
            match j, hj with
            | 0, hj =>
              have e : u = .string ⟨#[42]⟩ := by simp [strs] at hj; exact hj.symm
              subst e
              exact (cell_of_row _ _ 0 _ _ _ hn1).trans rfl
            | j + 1, hj => simp [strs] at hj
          have HN := Lib.hid (And.intro HT2 hnews)
          clear HT2 hnews hn1
          go_wp2_with (at_builtin; refine wpList_append_two rfl _ _ 38 rfl w0.heap.size 9 i0 _ 1 16 Tryz.underlying38 HI0.out hz0 hz1 hz2 rfl (by decide) tv 3 _ rfl HN.out.1.own ⟨wr.heap.size + 1, 0, none⟩ 1 1 (strs [[(42 : UInt8)]]) rfl rfl HN.out.2 ?c1 ?c3 ?c4 ?c5 ?_)
          case c1 =>
            intro u hu
            simp [strs] at hu
            rw [hu]
            rfl
          case c3 => unfold maxLen; omega
          case c4 => omega
          case c5 =>
            have h1 := HN.out.1.below.size
            exact h1
          intro v1 w5 hown5 hg5 hl5
          obtain ⟨A5, c5, rfl⟩ : ∃ A c, v1 = .slice A (3 + 1) c := by
            rcases hown5.2 with ⟨h, h0⟩ | ⟨g', cap', cur', h, _⟩
            · omega
            · exact ⟨_, _, h⟩
          have HT3 := HN.out.1.more hown5 hg5 hl5
          have ce5 : w5.cell? ⟨w0.heap.size + 1, 256, none⟩ = some tv := by
            obtain ⟨r5, q1, q2, q3, q4⟩ := HN.out.1.tab
            exact (cell_of_row w5 _ 256 _ _ _ ((hg5.block _ HN.out.1.lt (fun e => HN.out.1.tvg e.symm)).trans q1)).trans q3
          have fz5 : w5.frozen? ⟨w0.heap.size + 1, 256, none⟩ = false := by
            obtain ⟨r5, q1, _⟩ := HN.out.1.tab
            exact frozen_of_row _ _ _ _ _ ((hg5.block _ HN.out.1.lt (fun e => HN.out.1.tvg e.symm)).trans q1)
          obtain ⟨cc, C, hcv, hom⟩ := conv_bytes_m (P := Tryz.prog) (w5.setCell ⟨w0.heap.size + 1, 256, none⟩ (.slice A5 (3 + 1) c5)) 9 37 5 Tryz.underlying9 Tryz.underlying37 Tryz.underlying5 [92, 42] (by unfold maxLen; simp)
          have hsz : (w5.setCell ⟨w0.heap.size + 1, 256, none⟩ (.slice A5 (3 + 1) c5)).heap.size = w5.heap.size := by simp
          have hom' := hom
          rw [hsz] at hom'
          have hb7 : Below (w5.setCell ⟨w0.heap.size + 1, 256, none⟩ (.slice A5 (3 + 1) c5)).heap.size (w5.setCell ⟨w0.heap.size + 1, 256, none⟩ (.slice A5 (3 + 1) c5)) ((w5.setCell ⟨w0.heap.size + 1, 256, none⟩ (.slice A5 (3 + 1) c5)).alloc (.cells C 5 (cc, cc + 1))).drew := ((Below.refl _ _).alloc (Nat.le_refl _) _).drew
          have fz7 : ((w5.setCell ⟨w0.heap.size + 1, 256, none⟩ (.slice A5 (3 + 1) c5)).alloc (.cells C 5 (cc, cc + 1))).frozen? ⟨w0.heap.size + 1, 42, none⟩ = false := by
            obtain ⟨r5, q1, _⟩ := (HT3.keep hb7).tab
            exact frozen_of_row (((w5.setCell ⟨w0.heap.size + 1, 256, none⟩ (.slice A5 (3 + 1) c5)).alloc (.cells C 5 (cc, cc + 1))).drew) _ _ _ _ q1
          have ce7 : ((w5.setCell ⟨w0.heap.size + 1, 256, none⟩ (.slice A5 (3 + 1) c5)).alloc (.cells C 5 (cc, cc + 1))).cell? ⟨w0.heap.size + 1, 42, none⟩ = some (.slice none 0 0) := by
            obtain ⟨r5, q1, q2, q3, q4, q5⟩ := (HT3.keep hb7).tab
            exact (cell_of_row (((w5.setCell ⟨w0.heap.size + 1, 256, none⟩ (.slice A5 (3 + 1) c5)).alloc (.cells C 5 (cc, cc + 1))).drew) _ 42 _ _ _ q1).trans (q4 42 (by decide) (by decide))
          have HT4 := HT3.put (by omega) (q := w5.heap.size) hsz.symm hb7 (c := cc) (by simp) (hom'.cellAt 0 _ rfl) (hom'.cellAt 1 _ rfl)
          have H4 := Lib.hid HT4
          clear hown5 hg5 hl5 HT3 hom hom' hb7 HT4 HN hsz
          go_wp2_with (fail)
          go_roundw
          case rel => exact ⟨3 + 1, _, _, _, by omega, rfl, H4⟩
          case measure => simp [intOf]
        | 4, _ =>
          rw [show idxK 4 = -2 from rfl]
          clear a1 a2 a3 a4 a5 zt
          go_wp2_with (fail)
          go_ret
          rw [← HW0.out]
          exact ⟨_, rfl, HT.out.whole, HT.out.below⟩
        | _ + 5, hk => omega
end Go.Proofs.YtgppfcaghjbjmaaGreatDoor
end

/- strings.Replacer: built once. -/
section
set_option linter.unusedVariables false
namespace Go.Proofs.YtgppfcaghjbjmaaGreatDoor
open Go.RowKit

/-- the Replacer's block: done, locked, the wait, what replaces, the texts -/
def repRow (dn : Int) (lk : Int) (f : Value) (tx : Value) : Array Value := #[.int .u32 dn, .int .i32 lk, .int .u32 0, f, tx]

set_option maxHeartbeats 1000000 in
theorem buildOnce_lit (b d : Nat) (D : Option Addr) (lk : Int) (w : World) (hb : w.heap[b]? = some (.cells (repRow 0 lk .nilIface (.slice D 8 d)) 63 (0, 0))) (hR : Reads w 1 D 8 (strs litArgs)) :
    Calls Tryz.prog 36 #[.pointer (some ⟨b, 0, none⟩)] w fun e w' => e = .returned (.tuple #[]) ∧ ∃ g w2, TabL w.heap.size g w2 ∧ Below w.heap.size w w2 ∧
      w' = (w2.setCell ⟨b, 3, none⟩ (.iface 104 (.pointer (some ⟨g, 0, none⟩)))).setCell ⟨b, 4, none⟩ (.slice none 0 0) := by
  have hlt : b < w.heap.size := (Array.getElem?_eq_some_iff.1 hb).1
  have h4 : w.cell? ⟨b, 4, none⟩ = some (.slice D 8 d) := (cell_of_row w b 4 _ _ _ hb).trans rfl
  have HB := Lib.hid hb
  have HC := Lib.hid (build_lit b d D w h4 hR)
  clear hb h4 hR
  go_enter Tryz.func36, Tryz.ntmps36
  go_wp2_with (go_at_call 53; refine HC.out.mono ?_; rintro e w2 ⟨g, rfl, hT, hbl⟩; have HT := Lib.hid (And.intro hT hbl); have h2 := (hbl.block b hlt).trans HB.out; have c3 : w2.cell? ⟨b, 3, none⟩ = some .nilIface := (cell_of_row w2 b 3 _ _ _ h2).trans rfl; have c4 : w2.cell? ⟨b, 4, none⟩ = some (.slice D 8 d) := (cell_of_row w2 b 4 _ _ _ h2).trans rfl; have f3 : ∀ j, w2.frozen? ⟨b, j, none⟩ = false := fun j => frozen_of_row w2 b j _ _ h2; clear hT hbl h2)
  go_end0
  exact ⟨rfl, g, w2, HT.out.1, HT.out.2, rfl⟩

def DonePost (b : Nat) (w w' : World) : Prop := ∃ g, TabL w.heap.size g w' ∧ w'.cell? ⟨b, 3, none⟩ = some (.iface 104 (.pointer (some ⟨g, 0, none⟩))) ∧ Below b w w'

set_option maxRecDepth 100000 in
set_option maxHeartbeats 1600000 in
theorem slow_lit (b d : Nat) (D : Option Addr) (w : World) (hb : w.heap[b]? = some (.cells (repRow 0 0 .nilIface (.slice D 8 d)) 63 (0, 0))) (hR : Reads w 1 D 8 (strs litArgs)) (hD : ∀ ad, D = some ad → ad.block ≠ b) :
    Calls Tryz.prog 52 #[.pointer (some ⟨b, 0, none⟩), .func (.func 36) #[.pointer (some ⟨b, 0, none⟩)] #[]] w fun e w' => e = .returned (.tuple #[]) ∧ DonePost b w w' := by
  have hlt : b < w.heap.size := (Array.getElem?_eq_some_iff.1 hb).1
  have h0 : w.cell? ⟨b, 0, none⟩ = some (.int .u32 0) := (cell_of_row w b 0 _ _ _ hb).trans rfl
  have h1 : w.cell? ⟨b, 1, none⟩ = some (.int .i32 0) := (cell_of_row w b 1 _ _ _ hb).trans rfl
  have ff : ∀ j, w.frozen? ⟨b, j, none⟩ = false := fun j => frozen_of_row w b j _ _ hb
  have hl := run_call_load (P := Tryz.prog) Tryz.func68 (by kernel_rfl) (by kernel_rfl) (by kernel_rfl) .u32 (by kernel_rfl) (w := w.setCell ⟨b, 1, none⟩ (.int .i32 1)) (a := ⟨b, 0, none⟩) (x := 0) ((World.cell?_setCell_other _ ⟨b, 1, none⟩ ⟨b, 0, none⟩ _ (by simp)).trans h0)
  have hb1 : (w.setCell ⟨b, 1, none⟩ (.int .i32 1)).heap[b]? = some (.cells (repRow 0 1 .nilIface (.slice D 8 d)) 63 (0, 0)) := heap_setCell_same w b 1 _ _ _ hb
  have hR1 : Reads (w.setCell ⟨b, 1, none⟩ (.int .i32 1)) 1 D 8 (strs litArgs) := by
    refine ⟨hR.1, fun h => ?_⟩
    obtain ⟨ad, e, hr⟩ := hR.2 h
    refine ⟨ad, e, fun j u hu => (World.cell?_setCell_other _ _ _ _ (fun h => hD ad e ?_)).trans (hr j u hu)⟩
    have := congrArg Addr.block h
    rw [block_of_add] at this
    exact this.symm
  have HC := Lib.hid (buildOnce_lit b d D 1 _ hb1 hR1)
  have hnot : ∀ (x : Bool) (w : World), (Op.unary .not (.bool x)).run Tryz.prog w = .ok (.bool (!x)) w := fun _ _ => rfl
  have HB1 := Lib.hid (And.intro hb1 hb)
  clear hb hb1 hR hR1
  go_enter_defers Tryz.func52, Tryz.ntmps52
  go_wp2_with (first | (go_at_call 69; refine (lock_free ⟨b, 1, none⟩ _ (by go_simp) (by go_simp)).mono ?_; rintro e w' ⟨rfl, rfl⟩) | (go_at_call 51; go_in) | (go_at_call 36; refine HC.out.mono ?_; rintro e w' ⟨rfl, g, w2, hT, hbl, rfl⟩; have HT := Lib.hid (And.intro hT hbl); clear hT hbl))
  go_wp2
  have h2 : w2.heap[b]? = some (.cells (repRow 0 1 .nilIface (.slice D 8 d)) 63 (0, 0)) := (HT.out.2.block b (by simpa using hlt)).trans HB1.out.1
  have hW : ((w2.setCell ⟨b, 3, none⟩ (.iface 104 (.pointer (some ⟨g, 0, none⟩)))).setCell ⟨b, 4, none⟩ (.slice none 0 0)).heap[b]? = some (.cells (repRow 0 1 (.iface 104 (.pointer (some ⟨g, 0, none⟩))) (.slice none 0 0)) 63 (0, 0)) := (heap_setCell_same _ b 4 _ _ _ (heap_setCell_same _ b 3 _ _ _ h2)).trans rfl
  have HX : ∃ W, W = (w2.setCell ⟨b, 3, none⟩ (.iface 104 (.pointer (some ⟨g, 0, none⟩)))).setCell ⟨b, 4, none⟩ (.slice none 0 0) := ⟨_, rfl⟩
  obtain ⟨W, eW⟩ := HX
  rw [← eW] at hW ⊢
  have hW3 : (W.drew.setCell ⟨b, 0, none⟩ (.int .u32 1)).heap[b]? = some (.cells (repRow 1 1 (.iface 104 (.pointer (some ⟨g, 0, none⟩))) (.slice none 0 0)) 63 (0, 0)) := (heap_setCell_same W.drew b 0 _ _ _ hW).trans rfl
  have hW4 : ((W.drew.setCell ⟨b, 0, none⟩ (.int .u32 1)).setCell ⟨b, 1, none⟩ (.int .i32 0)).heap[b]? = some (.cells (repRow 1 0 (.iface 104 (.pointer (some ⟨g, 0, none⟩))) (.slice none 0 0)) 63 (0, 0)) := (heap_setCell_same _ b 1 _ _ _ hW3).trans rfl
  refine leaves_cons (f := 71) (args := #[.pointer (some ⟨b, 0, none⟩), .bool true]) (by simp) (by simp [go_sem]) ?_
  refine (store_deferred ⟨b, 0, none⟩ (.int .u32 0) .returning _ ((cell_of_row _ b 0 _ _ _ hW).trans rfl) (frozen_of_row _ b 0 _ _ hW)).mono ?_
  rintro e u' w'' ⟨rfl, rfl, rfl⟩
  refine leaves_cons (f := 70) (args := #[.pointer (some ⟨b, 1, none⟩)]) (by simp [settle]) (by simp [go_sem]) ?_
  refine (unlock_deferred ⟨b, 1, none⟩ _ _ ((cell_of_row _ b 1 _ _ _ hW3).trans rfl) (frozen_of_row _ b 1 _ _ hW3)).mono ?_
  rintro e u' w'' ⟨rfl, rfl, rfl⟩
  have hfin : DonePost b w ((W.drew.setCell ⟨b, 0, none⟩ (.int .u32 1)).setCell ⟨b, 1, none⟩ (.int .i32 0)) := by
    have hb2 : Below b w w2 := ((Below.refl b w).setCell (p := ⟨b, 1, none⟩) (Nat.le_refl _) _).trans (HT.out.2.mono (by simp; omega))
    have hbW : Below b w W := by
      rw [eW]
      exact (hb2.setCell (p := ⟨b, 3, none⟩) (Nat.le_refl _) _).setCell (p := ⟨b, 4, none⟩) (Nat.le_refl _) _
    refine ⟨g, ?_, (cell_of_row _ b 3 _ _ _ hW4).trans rfl, (hbW.drew.setCell (p := ⟨b, 0, none⟩) (Nat.le_refl _) _).setCell (p := ⟨b, 1, none⟩) (Nat.le_refl _) _⟩
    have hT := HT.out.1
    rw [show (w.setCell ⟨b, 1, none⟩ (.int .i32 1)).heap.size = w.heap.size by simp] at hT
    refine hT.kept fun k hk hl => ?_
    have hkb : k ≠ b := by omega
    rw [heap_setCell_other _ _ _ _ (by simpa using hkb), heap_setCell_other _ _ _ _ (by simpa using hkb)]
    show W.heap[k]? = _
    rw [eW, heap_setCell_other _ _ _ _ (by simpa using hkb), heap_setCell_other _ _ _ _ (by simpa using hkb)]
  simpa [Leaves, settle, results, Tryz.results52] using hfin

set_option maxRecDepth 100000 in
set_option maxHeartbeats 1600000 in
theorem do_lit (b d : Nat) (D : Option Addr) (w : World) (hb : w.heap[b]? = some (.cells (repRow 0 0 .nilIface (.slice D 8 d)) 63 (0, 0))) (hR : Reads w 1 D 8 (strs litArgs)) (hD : ∀ ad, D = some ad → ad.block ≠ b) :
    Calls Tryz.prog 35 #[.pointer (some ⟨b, 0, none⟩), .func (.func 36) #[.pointer (some ⟨b, 0, none⟩)] #[]] w fun e w' => e = .returned (.tuple #[]) ∧ DonePost b w w' := by
  have h0 : w.cell? ⟨b, 0, none⟩ = some (.int .u32 0) := (cell_of_row w b 0 _ _ _ hb).trans rfl
  have hl := run_call_load (P := Tryz.prog) Tryz.func68 (by kernel_rfl) (by kernel_rfl) (by kernel_rfl) .u32 (by kernel_rfl) h0
  have hnot : ∀ (x : Bool) (w : World), (Op.unary .not (.bool x)).run Tryz.prog w = .ok (.bool (!x)) w := fun _ _ => rfl
  have HC := Lib.hid (slow_lit b d D w hb hR hD)
  clear hb hR hD
  go_enter Tryz.func35, Tryz.ntmps35
  go_wp2_with (first | (go_at_call 52; refine HC.out.mono ?_; rintro e w' ⟨rfl, hp⟩) | (go_at_call 51; go_in))
  go_end0
  exact ⟨rfl, hp⟩

theorem below_of {B : Nat} {w w' : World} (h : Below B w w') (hB : ∀ k, B ≤ k → k < w.heap.size → w'.heap[k]? = w.heap[k]?) : Below w.heap.size w w' :=
  ⟨h.os, h.tape, h.output, h.size, fun k hk => by
    by_cases hl : k < B
    · exact h.block k hl
    · exact hB k (by omega) hk⟩
end Go.Proofs.YtgppfcaghjbjmaaGreatDoor
end
