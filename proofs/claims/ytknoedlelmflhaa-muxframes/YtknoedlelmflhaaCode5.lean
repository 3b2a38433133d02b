/- A reader's calls: a text, a flag, what is left, the fault; a new reader; what is written. -/
import Derived.Test.YtknoedlelmflhaaCode4
namespace Go.Proofs.Ytknoedlelmflhaa
open Go.RowKit Plain

/-- as RdRet, and the text lies at block b -/
def TxtPost (w0 : World) (br bb b : Nat) (st : St) (t : List UInt8) (e : Ending) (w' : World) : Prop := ∃ v, RdRet w0 br bb st v e w' ∧ w'.cell? ⟨b, 0, none⟩ = some (.string ⟨t.toArray⟩)

set_option maxRecDepth 100000 in
set_option maxHeartbeats 1000000 in
theorem take_text (most : Int) (a b br bb : Nat) (s : List UInt8) (f : Nat) (w0 w : World) (h : Rd br bb (s, f) w) (hg : w0.grownBy w (some bb)) (ha : w.cell? ⟨a, 0, none⟩ = some (.int .i64 most)) (hb : w.heap[b]? = some (.cells #[.string ⟨#[]⟩] 9 (0, 0)))
    (hlt : a < w.heap.size) (hb0 : w0.heap.size ≤ b) (hbr : br ≠ b) (hbb : bb ≠ b) :
    Calls Try.prog 51 #[.pointer (some ⟨br, 0, none⟩), .func (.func 53) #[] #[.pointer (some ⟨a, 0, none⟩), .pointer (some ⟨b, 0, none⟩)]] w
      (TxtPost w0 br bb b (takeR (passText most) (s, f)).2 (textR most (s, f))) := by
  have hs : s.length ≤ 140737488355328 := h.short
  have hblt := lt_of_heap hb
  have HBC := Lib.hid (cell_of_row w b 0 _ _ _ hb)
  by_cases hf : f = 0
  · subst hf
    obtain ⟨c, c0, c1, f0, f1⟩ := h.facts
    have hN := number_any bb 0 s w h.inner hs
    rcases hnr : numR s with ⟨n, rest, e⟩
    rw [hnr] at hN
    by_cases he : e = 0
    · subst he
      rcases hps : passText most n rest with ⟨r2, e2⟩
      have hrest : rest.length ≤ 140737488355328 := by have := numG_rest 0 0 s; rw [show numG 0 0 s = numR s from rfl, hnr] at this; simp at this; omega
      by_cases he2 : e2 = 0
      · subst he2
        have hr2 : r2.length ≤ 140737488355328 := by
          have : r2 = (passText most n rest).1 := by rw [hps]
          rw [this]; unfold passText; split
          · simp
          · split <;> simp; omega
        have htx : textR most (s, 0) = rest.take n := by simp [textR, hnr, hps]
        have hP := fun W hA hB => text1_ok most n rest W a b hA hB (by rw [hps])
        rw [hps] at hP
        rw [takeR_ok hnr hps, htx]
        clear hnr hps htx
        go_enter Try.func51, Try.ntmps51
        go_wp2_with (fail)
        refine hN.mono ?_
        rintro e w1 ⟨rfl, hb1⟩
        have h1 := h.below hb1
        obtain ⟨d, d0, d1, g0, g1⟩ := h1.facts
        go_wp2_with (fail)
        refine (hP _ ((hb1.cell hlt).trans ha) ((hb1.block b hblt).trans hb)).mono ?_
        rintro e w2 ⟨rfl, rfl⟩
        have h2 : Rd br bb (s, 0) (w1.setCell ⟨b, 0, none⟩ (.string ⟨(rest.take n).toArray⟩)) := ⟨h1.ne, (heap_set_ne hbr _ _).trans h1.outer, (heap_set_ne hbb _ _).trans h1.inner, hs⟩
        have hbk : (w1.setCell ⟨b, 0, none⟩ (.string ⟨(rest.take n).toArray⟩)).heap[b]? = some (.cells #[.string ⟨(rest.take n).toArray⟩] 9 (0, 0)) := heap_set ((hb1.block b hblt).trans hb) _ _
        have hg2 : w0.grownBy (w1.setCell ⟨b, 0, none⟩ (.string ⟨(rest.take n).toArray⟩)) (some bb) := gb_set (gb_below hg hb1) (.inr hb0) _
        generalize w1.setCell ⟨b, 0, none⟩ (.string ⟨(rest.take n).toArray⟩) = w2 at *
        clear d d0 d1 g0 g1
        obtain ⟨d, d0, d1, g0, g1⟩ := h2.facts
        go_wp2_with (fail)
        go_ret
        refine ⟨_, ⟨rfl, h2.go r2 hr2, gb_set hg2 (.inl rfl) _⟩, ?_⟩
        exact cell_of_row _ b 0 _ _ _ ((heap_set_ne (Ne.symm hbb) _ _).trans hbk)
      · have htx : textR most (s, 0) = [] := by simp [textR, hnr, hps, he2]
        have hP := fun W hA => text1_bad most n rest W a b hA (by rw [hps]; exact he2)
        rw [hps] at hP
        rw [takeR_pass hnr hps he2, htx]
        clear hnr hps htx
        have he2' : ((e2 : Int) != 0) = true := by simpa using he2
        go_enter Try.func51, Try.ntmps51
        go_wp2_with (fail)
        refine hN.mono ?_
        rintro e w1 ⟨rfl, hb1⟩
        have h1 := h.below hb1
        obtain ⟨d, d0, d1, g0, g1⟩ := h1.facts
        go_wp2_with (fail)
        refine (hP _ ((hb1.cell hlt).trans ha)).mono ?_
        rintro e w2 ⟨rfl, hb2⟩
        have h2 := h1.below hb2
        clear d d0 d1 g0 g1
        obtain ⟨d, d0, d1, g0, g1⟩ := h2.facts
        go_wp2_with (fail)
        go_ret
        refine ⟨_, ⟨rfl, h2.fail e2, gb_set (gb_below (gb_below hg hb1) hb2) (.inl rfl) _⟩, ?_⟩
        exact cell_of_row _ b 0 _ _ _ ((heap_set_ne (Ne.symm hbb) _ _).trans ((hb2.block b (Nat.lt_of_lt_of_le hblt hb1.size)).trans ((hb1.block b hblt).trans hb)))
    · have htx : textR most (s, 0) = [] := by simp [textR, hnr, he]
      rw [takeR_num hnr he, htx]
      clear hnr htx
      have he1 : ((e : Int) == 0) = false := by simpa using he
      have he2 : ((e : Int) != 0) = true := by simpa using he
      go_enter Try.func51, Try.ntmps51
      go_wp2_with (fail)
      refine hN.mono ?_
      rintro x w1 ⟨rfl, hb1⟩
      have h1 := h.below hb1
      obtain ⟨d, d0, d1, g0, g1⟩ := h1.facts
      go_wp2_with (fail)
      go_ret
      refine ⟨_, ⟨rfl, h1.fail e, gb_set (gb_below hg hb1) (.inl rfl) _⟩, ?_⟩
      exact cell_of_row _ b 0 _ _ _ ((heap_set_ne (Ne.symm hbb) _ _).trans ((hb1.block b hblt).trans hb))
  · have htx : textR most (s, f) = [] := by simp [textR, hf]
    rw [takeR_bad hf, htx]
    clear htx
    obtain ⟨c, c0, c1, f0, f1⟩ := h.facts
    have he2 : ((f : Int) != 0) = true := by simpa using hf
    go_enter Try.func51, Try.ntmps51
    go_wp2_with (fail)
    go_ret
    exact ⟨_, ⟨rfl, h, hg⟩, HBC.out⟩

set_option maxRecDepth 100000 in
set_option maxHeartbeats 400000 in
theorem RText_any (br bb : Nat) (most : Int) (s : List UInt8) (f : Nat) (w : World) (h : Rd br bb (s, f) w) :
    Calls Try.prog 40 #[.pointer (some ⟨br, 0, none⟩), .int .i64 most] w (RdRet w br bb (takeR (passText most) (s, f)).2 (.string ⟨(textR most (s, f)).toArray⟩)) := by
  have hb0 := ((Below.refl w.heap.size w).alloc (Nat.le_refl _) (.cells #[.int .i64 most] 3)).alloc (by simp) (.cells #[.string ⟨#[]⟩] 9)
  have h1 := lt_of_heap h.outer
  have h2 := lt_of_heap h.inner
  have hT := take_text most w.heap.size (w.heap.size + 1) br bb s f w _ (h.below hb0) (gb_below (gb_refl _ _) hb0) (by go_simp) (by simpa using heap_alloc_new (w.alloc (.cells #[.int .i64 most] 3)) (.cells #[.string ⟨#[]⟩] 9)) (by simp; omega) (by omega) (by omega) (by omega)
  generalize (takeR (passText most) (s, f)).2 = st at *
  generalize textR most (s, f) = t at *
  go_enter Try.func40, Try.ntmps40
  go_wp2_with (fail)
  refine hT.mono ?_
  rintro e w1 ⟨v, ⟨rfl, h1, hg1⟩, hc⟩
  go_wp2_with (fail)
  go_ret
  exact ⟨rfl, h1, hg1⟩

def flagR (st : St) : Bool × St :=
  if st.2 ≠ 0 then (false, st) else match st.1 with
    | [] => (false, ([], 30))
    | c :: r => if 1 < c.toNat then (false, (c :: r, 31)) else (decide (c.toNat = 1), (r, 0))

set_option maxRecDepth 100000 in
set_option maxHeartbeats 400000 in
theorem RFlag_any (br bb : Nat) (s : List UInt8) (f : Nat) (w : World) (h : Rd br bb (s, f) w) :
    Calls Try.prog 41 #[.pointer (some ⟨br, 0, none⟩)] w (RdRet w br bb (flagR (s, f)).2 (.bool (flagR (s, f)).1)) := by
  obtain ⟨d, d0, d1, g0, g1⟩ := h.facts
  by_cases hf : f = 0
  · subst hf
    unfold flagR
    rw [if_neg (by simp)]
    cases s with
    | nil =>
      go_enter Try.func41, Try.ntmps41
      go_wp2_with (fail)
      go_ret
      exact ⟨rfl, h.fail 30, gb_set (gb_refl _ _) (.inl rfl) _⟩
    | cons c r =>
      have hs : (c :: r).length ≤ 140737488355328 := h.short
      have hc := c.toNat_lt
      have hl : 0 < (c :: r).length := by simp
      have hl1 : (1 : Int) ≤ ((c :: r).length : Int) := by simp; omega
      by_cases h1 : 1 < c.toNat
      · simp only [if_pos h1]
        have h1' : (1 : Int) < (c.toNat : Int) := by omega
        go_enter Try.func41, Try.ntmps41
        go_wp2_with (fail)
        go_ret
        exact ⟨rfl, h.fail 31, gb_set (gb_refl _ _) (.inl rfl) _⟩
      · simp only [if_neg h1]
        have h1' : ¬ (1 : Int) < (c.toNat : Int) := by omega
        go_enter Try.func41, Try.ntmps41
        go_wp2_with (fail)
        go_region
        all_goals go_wp2_with (fail)
        go_ret
        refine ⟨?_, (h.go r (by simp at hs; omega)).drewN 1, gb_drew (gb_set (gb_refl _ _) (.inl rfl) _)⟩
        rw [show (decide (c.toNat = 1)) = ((c.toNat : Int) == 1) from by rw [Bool.eq_iff_iff]; simp; omega]
        rfl
  · have hr : flagR (s, f) = (false, (s, f)) := by simp [flagR, hf]
    rw [hr]
    clear hr
    have he2 : ((f : Int) != 0) = true := by simpa using hf
    go_enter Try.func41, Try.ntmps41
    go_wp2_with (fail)
    go_ret
    exact ⟨rfl, h, gb_refl _ _⟩

end Go.Proofs.Ytknoedlelmflhaa
