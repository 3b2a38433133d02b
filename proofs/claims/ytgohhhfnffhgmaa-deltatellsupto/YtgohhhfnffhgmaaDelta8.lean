/- delta.Make: the map of the weak sums is made. -/
import Derived.Test.YtgohhhfnffhgmaaDelta7
namespace Go.Proofs.Ytgohhhfnffhgmaa
open Go.RowKit Plain Go.Maps Go.ChangeMaps

open Classical in
noncomputable def putF (f : Value → Option Value) (x : Nat) (v : Value) : Value → Option Value := fun y => if y = .int .u32 (x : Nat) then some v else f y
theorem slot_put (f : Value → Option Value) (x : Nat) (v : Value) : slotOf (putF f x v) x = v := by simp [slotOf, putF]
theorem slot_other (f : Value → Option Value) (x y : Nat) (v : Value) (h : y ≠ x) : slotOf (putF f x v) y = slotOf f y := by
  have : (Value.int .u32 (y : Nat)) ≠ .int .u32 (x : Nat) := fun e => by injection e with _ e; omega
  simp [slotOf, putF, this]
theorem idxs_put {l : List Blk} {k : Nat} (hk : k < l.length) : idxs l l[k].w (k + 1) = idxs l l[k].w k ++ [k] := by
  show (if l[k]?.map (·.w) = some l[k].w then _ else _) = _
  rw [List.getElem?_eq_getElem hk]; simp
theorem idxs_other {l : List Blk} {k y : Nat} (hk : k < l.length) (h : y ≠ l[k].w) : idxs l y (k + 1) = idxs l y k := by
  show (if l[k]?.map (·.w) = some y then _ else _) = _
  rw [List.getElem?_eq_getElem hk]
  rw [if_neg]
  simp; exact fun e => h e.symm

theorem IdxAt.put {base mb : Nat} {l : List Blk} {k : Nat} {f : Value → Option Value} {W : World} (h : IdxAt base mb l k f W) (_hb : base ≤ W.heap.size) (hk : k < l.length) (hx : l[k].w < 4294967296) {o : Obj} {w5 : World} {v' : Value} (hg : (World.drew (W.alloc o)).grownBy w5 (slotOf f l[k].w).ownBlock)
    (hown : w5.ownsRow base 3 1 v' ((idxs l l[k].w k).length + 1) (natsV (idxs l l[k].w k) ++ [.int .i64 (k : Nat)])) (hl : ∀ b, v'.ownBlock = some b → (slotOf f l[k].w).ownBlock = some b ∨ W.heap.size ≤ b) :
    ∃ f' w6, (Instr.mapUpdate 60 (.map (some mb)) (.int .u32 (l[k].w : Nat)) v').run Try.prog w5 = .ok () w6 ∧ IdxAt base mb l (k + 1) f' w6 ∧ Only (fun b => b = mb ∨ base ≤ b) W w6 ∧ (∀ b, b ≠ mb → w6.heap[b]? = w5.heap[b]?) := by
  have hmb := h.map.lt
  have hle := h.le
  have hne : ∀ b, b < base → (slotOf f l[k].w).ownBlock ≠ some b := fun b hb e => by have := ((h.rows _ hx).lt b e).1; omega
  have h5 : ∀ b, b < W.heap.size → (slotOf f l[k].w).ownBlock ≠ some b → w5.heap[b]? = W.heap[b]? := fun b hb hn => by
    have h1 := hg.block b (by simp; omega) (fun e => hn e.symm)
    rw [h1]
    exact Below.heap_alloc _ _ _ hb
  have hM5 : MapIs Try.prog 31 w5 mb k f := h.map.same (h5 mb hmb (hne mb hle))
  obtain ⟨ob, hrun, hmap⟩ := hM5.store (v := v') (int_keyed Try.underlying31) Try.underlying60 (key_u32 _ hx) (putF f l[k].w v') (fun y hy => by simp [putF, hy]) (by simp [putF])
  have hmb5 : mb < w5.heap.size := hM5.lt
  have h6 : ∀ b, b ≠ mb → ({ w5 with heap := w5.heap.setIfInBounds mb ob } : World).heap[b]? = w5.heap[b]? := fun b hb => by
    show (w5.heap.setIfInBounds mb ob)[b]? = _
    rw [Array.getElem?_setIfInBounds_ne (Ne.symm hb)]
  have hsz : W.heap.size ≤ w5.heap.size := by have := hg.size; simp at this; omega
  refine ⟨putF f l[k].w v', { w5 with heap := w5.heap.setIfInBounds mb ob }, hrun w5 rfl, ⟨?_, ?_, ?_, hle⟩, ?_, h6⟩
  · exact hmap _ (by show (w5.heap.setIfInBounds mb ob)[mb]? = _; simp [hmb5])
  · intro y hy
    by_cases e : y = l[k].w
    · subst e
      rw [slot_put, idxs_put hk, List.length_append, natsV_append]
      exact own_keep hown (fun b hb' _ => h6 b (by omega))
    · rw [slot_other _ _ _ _ e, idxs_other hk e]
      have hr := h.rows y hy
      have ha := h.apart l[k].w y hx hy (Ne.symm e)
      have hr5 : w5.ownsRow base 3 1 (slotOf f y) (idxs l y k).length (natsV (idxs l y k)) := by
        refine ⟨hr.1, ?_⟩
        rcases hr.2 with h2 | ⟨g, cap, cur, hv, hbg, hgg, hrr⟩
        · exact .inl h2
        · refine .inr ⟨g, cap, cur, hv, hbg, ?_, hrr⟩
          rw [h5 g (Array.getElem?_eq_some_iff.1 hgg).1 (fun e => ha g e (by rw [hv]; rfl))]
          exact hgg
      exact own_keep hr5 (fun b hb' _ => h6 b (by omega))
  · intro y z hy hz hyz
    by_cases e : y = l[k].w
    · subst e
      rw [slot_put, slot_other _ _ _ _ (Ne.symm hyz)]
      intro b hb1 hb2
      rcases hl b hb1 with h7 | h7
      · exact h.apart _ _ hy hz hyz b h7 hb2
      · have := ((h.rows z hz).lt b hb2).2; omega
    · rw [slot_other _ _ _ _ e]
      by_cases e2 : z = l[k].w
      · subst e2
        rw [slot_put]
        intro b hb1 hb2
        rcases hl b hb2 with h7 | h7
        · exact h.apart _ _ hy hz hyz b hb1 h7
        · have := ((h.rows y hy).lt b hb1).2; omega
      · rw [slot_other _ _ _ _ e2]; exact h.apart y z hy hz hyz
  · refine ⟨hg.os, hg.tape, hg.output, by show W.heap.size ≤ (w5.heap.setIfInBounds mb ob).size; simp; omega, fun b hb1 hb2 => ?_⟩
    have hbm : b ≠ mb := fun e => hb2 (.inl e)
    have hbb : b < base := by
      rcases Nat.lt_or_ge b base with h' | h'
      · exact h'
      · exact absurd (.inr h') hb2
    rw [h6 b hbm, h5 b hb1 (hne b hbb)]
theorem IdxAt.none (W : World) (l : List Blk) {base mb : Nat} (hm : MapIs Try.prog 31 W mb 0 (fun _ => none)) (h : mb < base) : IdxAt base mb l 0 (fun _ => none) W :=
  ⟨hm, fun x _ => World.ownsRow_nil _ _ _ _, fun x y _ _ _ k hk => (by cases hk), h⟩
end Go.Proofs.Ytgohhhfnffhgmaa
