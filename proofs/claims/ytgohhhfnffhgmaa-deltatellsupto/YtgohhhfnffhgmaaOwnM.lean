/- A row of the call's own that came of a conversion: its mark stands behind its cells; append onto it. -/
import Derived.Test.YtgohhhfnffhgmaaWords
import Derived.OwnWalk
import Derived.ArgAppend
namespace Go.Proofs.Ytgohhhfnffhgmaa
open Go.RowKit

/-- v is nil, or a row of the call's own (with the mark of a conversion, or with none) that begins with xs. -/
def OwnM (w : World) (base : Nat) (e : TypeId) (v : Value) (xs : List Value) : Prop :=
  (v = .slice none 0 0 ∧ xs = []) ∨ ∃ g cap cur fz, v = .slice (some ⟨g, 0, none⟩) xs.length cap ∧ base ≤ g ∧ w.heap[g]? = some (.cells cur e fz) ∧ xs.length ≤ cap ∧ cap ≤ maxLen ∧ cur.size = cap ∧ cur.toList.take xs.length = xs ∧ (fz = (0, 0) ∨ fz = (cap, cap + 1))
section
variable {w w' : World} {base : Nat} {e : TypeId} {v : Value} {xs : List Value}
theorem OwnM.of_own {n : Nat} (h : w.ownsRow base e 1 v n xs) : OwnM w base e v xs := by
  have hn := h.1
  rcases h.2 with ⟨rfl, h0⟩ | ⟨g, cap, cur, rfl, hb, hg, hnc, hcm, hcs, ht⟩
  · exact .inl ⟨rfl, List.eq_nil_of_length_eq_zero (by omega)⟩
  · exact .inr ⟨g, cap, cur, (0, 0), by rw [show xs.length = n by omega], hb, hg, by omega, hcm, by omega, by rw [show xs.length = n * 1 by omega]; exact ht, .inl rfl⟩
theorem OwnM.lt (h : OwnM w base e v xs) : ∀ k, v.ownBlock = some k → base ≤ k ∧ k < w.heap.size := by
  intro k hk
  rcases h with ⟨rfl, _⟩ | ⟨g, cap, cur, fz, rfl, hb, hg, _⟩
  · cases hk
  · simp only [Value.ownBlock, Option.some.injEq] at hk
    subst hk
    exact ⟨hb, (Array.getElem?_eq_some_iff.1 hg).1⟩
theorem OwnM.alloc (h : OwnM w base e v xs) (o : Obj) : OwnM (w.alloc o) base e v xs :=
  h.imp id fun ⟨g, cap, cur, fz, hv, hb, hg, hr⟩ => ⟨g, cap, cur, fz, hv, hb, by rw [Below.heap_alloc _ _ _ (Array.getElem?_eq_some_iff.1 hg).1]; exact hg, hr⟩
theorem OwnM.below (h : OwnM w base e v xs) (hb : Below w.heap.size w w') : OwnM w' base e v xs :=
  h.imp id fun ⟨g, cap, cur, fz, hv, hbg, hg, hr⟩ => ⟨g, cap, cur, fz, hv, hbg, by rw [hb.block g (Array.getElem?_eq_some_iff.1 hg).1]; exact hg, hr⟩
theorem OwnM.form (h : OwnM w base e v xs) : ∃ A c, v = .slice A xs.length c ∧ xs.length ≤ c ∧ c ≤ maxLen := by
  rcases h with ⟨rfl, rfl⟩ | ⟨g, cap, cur, fz, rfl, hb, hg, hnc, hcm, _⟩
  · exact ⟨none, 0, rfl, by simp, by unfold maxLen; omega⟩
  · exact ⟨_, _, rfl, hnc, hcm⟩
theorem OwnM.back {P : Program} {l : List UInt8} (src dst : TypeId) (hs : P.underlying src = some (.slice e)) (he : P.underlying e = some (.int .u8)) (hd : P.underlying dst = some .string) (h : OwnM w base e v (bytesV l)) :
    (convert src dst v).run P w = .ok (.string ⟨l.toArray⟩) w := by
  rcases h with ⟨rfl, hx⟩ | ⟨g, cap, cur, fz, rfl, hb, hg, hnc, hcm, hcs, ht, _⟩
  · have : l = [] := List.eq_nil_of_length_eq_zero (by have := congrArg List.length hx; simpa [bytesV_length] using this)
    subst this
    exact run_convert_bytes_nil w src e hs he 0 0 dst hd
  · refine conv_back w src dst e hs he hd l g _ cap (bytesV_length l) cur fz hg (fun j hj => ?_)
    have h1 : (bytesV l)[j]? = some (.int .u8 (l[j].toNat : Int)) := by simp [bytesV, hj]
    rw [← ht, List.getElem?_take] at h1
    split at h1
    · simpa using h1
    · cases h1

/-- '[]byte(s)' -/
theorem conv_bytes_m {P : Program} (w : World) (src dst e : TypeId) (hs : P.underlying src = some .string) (hd : P.underlying dst = some (.slice e)) (he : P.underlying e = some (.int .u8)) (l : List UInt8) (hl : l.length ≤ maxLen) :
    ∃ cap C, (convert src dst (.string ⟨l.toArray⟩)).run P w = .ok (.slice (some ⟨w.heap.size, 0, none⟩) l.length cap) (w.alloc (.cells C e (cap, cap + 1))).drew ∧
      OwnM (w.alloc (.cells C e (cap, cap + 1))).drew w.heap.size e (.slice (some ⟨w.heap.size, 0, none⟩) l.length cap) (bytesV l) := by
  have h := run_bytes_of_string (P := P) w src dst e ⟨l.toArray⟩ hs hd he
  have hsz : (ByteArray.mk l.toArray).size = l.length := by simp [ByteArray.size]
  have hge := grownCap_ge w (ByteArray.mk l.toArray).size 0 e
  have hle := grownCap_le_maxLen w (ByteArray.mk l.toArray).size 0 e (by rw [hsz]; exact hl)
  rw [hsz] at h hge hle
  have hsize : (bytesRow ⟨l.toArray⟩ (grownCap w l.length 0 e)).size = grownCap w l.length 0 e := by simp [bytesRow, hsz]; omega
  rw [hsize] at h
  refine ⟨_, _, h, .inr ⟨w.heap.size, _, _, _, by rw [bytesV_length], Nat.le_refl _, heap_alloc_new w _, by rw [bytesV_length]; exact hge, hle, hsize, ?_, .inr rfl⟩⟩
  rw [bytesV_length]
  unfold bytesRow
  rw [Array.toList_append, List.take_append_of_le_length (by simp), List.take_of_length_le (by simp)]
  simp [bytesV]

theorem frozen_row' {g cap j : Nat} {C : Array Value} {fz : Nat × Nat} (hb : w.heap[g]? = some (.cells C e fz)) (hfz : fz = (0, 0) ∨ fz = (cap, cap + 1)) (h : j < cap) : w.frozen? ⟨g, j, none⟩ = false := by
  unfold World.frozen?
  rw [hb]
  rcases hfz with rfl | rfl <;> simp <;> omega

/-- append of one cell -/
theorem wpList_append_m {P : Program} {ops : Array Oper} {rest : List Oper} {o : Oper} {a : Act} {Q : Exit → Act → World → Prop} (hgd : o.guard = none) (s x : Operand) (t : TypeId)
    (ho : o.op = .call { callee := .builtin .append, args := #[s, x], argTypes := #[t, t] })
    (i : TypeInfo) (z : Value) (bytes : Nat) (ht : P.underlying t = some (.slice e)) (hi : P.info? e = some i) (hz : i.zero = some z)
    (hsize : i.size = 1) (hby : i.bytes = bytes) (hzs : z.cells.size = 1)
    (hs : a.eval s = v) (hown : OwnM w base e v xs) (u : Value)
    (ad : Addr) (c : Nat) (hx : a.eval x = .slice (some ad) 1 c) (hnew : w.cell? ad = some u) (h1 : u.oneCell' = true)
    (h63 : xs.length + 1 ≤ maxLen) (hbytes : (xs.length + 1) * bytes ≤ 140737488355328) (hbase : base ≤ w.heap.size)
    (h : ∀ v' w', OwnM w' base e v' (xs ++ [u]) → w.grownBy w' v.ownBlock → wpList P ops Q rest (a.put o.dst v') w') : wpList P ops Q (o :: rest) a w := by
  have hnews : ∀ j v, [u][j]? = some v → w.cell? (ad.add j) = some v := by
    intro j v hj
    match j, hj with
    | 0, hj => simp at hj; subst hj; simpa [Addr.add] using hnew
  rcases hown with ⟨rfl, rfl⟩ | ⟨g, cap, cur, fz, rfl, hbg, hg, hnc, hcm, hcs, htk, hfz⟩
  · exact wpList_append_own w hgd s x t ho base e i z 1 bytes ht hi hz hsize hby hzs (by omega) _ _ _ hs (World.ownsRow_nil _ _ _ _) ad 1 c [u] hx rfl hnews (one_oneCell h1) (by simpa using h63) (by simpa using hbytes) hbase
      fun v' w' h2 h3 _ => h v' w' (OwnM.of_own h2) h3
  · have hcell : ∀ j y, xs[j]? = some y → w.cell? ⟨g, 0 + j, none⟩ = some y := by
      intro j y hj
      rw [Nat.zero_add, cell_of_row _ _ _ cur e fz hg]
      rw [← htk, List.getElem?_take] at hj
      split at hj
      · simpa using hj
      · cases hj
    refine wpList_append_arg w hgd s x t ho e i z 1 bytes ht hi hz hsize hby hzs (by omega) g 0 xs.length cap xs hs (by omega) hcell ad 1 c [u] hx rfl hnews (one_oneCell h1) ?_ h63 hbytes ?_ ?_
    · intro hr j hj
      obtain rfl : j = 0 := by simpa using hj
      refine ⟨?_, frozen_row' hg hfz (by omega)⟩
      rw [cell_of_row _ _ _ cur e fz hg]
      simp; omega
    · intro hr
      have hset : w.setCells g (0 + xs.length * 1) [u] = w.setCell ⟨g, xs.length, none⟩ u := by simp [World.setCells]
      rw [hset]
      refine h _ _ (.inr ⟨g, cap, _, fz, by simp, hbg, heap_set hg _ _, by simpa using hr, hcm, by simpa using hcs, ?_, hfz⟩) (gb_set (gb_refl _ _) (.inl rfl) _)
      rw [Array.toList_setIfInBounds, List.length_append, List.length_singleton, List.take_succ_eq_append_getElem (by simp; omega), List.take_set_of_le (Nat.le_refl _), htk]
      simp
    · intro hr v' w' h2 h3
      exact h _ _ (OwnM.of_own (by
        have := h2
        exact ⟨this.1, this.2.imp id fun ⟨g', cap', cur', hv, hb', hrest⟩ => ⟨g', cap', cur', hv, by omega, hrest⟩⟩)) ⟨h3.os, h3.tape, h3.output, h3.size, fun k hk _ => h3.block k hk (by simp)⟩
end
end Go.Proofs.Ytgohhhfnffhgmaa
