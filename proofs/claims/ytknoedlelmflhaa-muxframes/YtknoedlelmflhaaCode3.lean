/- A reader of bytes: what it holds; a number that passes is taken. -/
import Derived.Test.YtknoedlelmflhaaCode2
namespace Go.Proofs.Ytknoedlelmflhaa
open Go.RowKit Plain

/-- The reader at block br, its bytes at block bb: what is left, and its fault. -/
structure Rd (br bb : Nat) (st : St) (w : World) : Prop where
  ne : br ≠ bb
  outer : w.heap[br]? = some (.cells #[.pointer (some ⟨bb, 0, none⟩)] 107 (0, 0))
  inner : w.heap[bb]? = some (.cells #[.string ⟨st.1.toArray⟩, .int .i64 (st.2 : Nat)] 105 (0, 0))
  short : st.1.length ≤ 140737488355328

theorem lt_of_heap {w : World} {b : Nat} {o : Obj} (h : w.heap[b]? = some o) : b < w.heap.size := (Array.getElem?_eq_some_iff.1 h).1
theorem Rd.grown {br bb : Nat} {st : St} {w w' : World} {r : Option Nat} (h : Rd br bb st w) (hg : w.grownBy w' r) (h1 : r ≠ some br) (h2 : r ≠ some bb) : Rd br bb st w' :=
  ⟨h.ne, (hg.block br (lt_of_heap h.outer) (fun e => h1 e.symm)).trans h.outer, (hg.block bb (lt_of_heap h.inner) (fun e => h2 e.symm)).trans h.inner, h.short⟩
theorem Rd.below {br bb : Nat} {st : St} {w w' : World} (h : Rd br bb st w) (hb : Below w.heap.size w w') : Rd br bb st w' :=
  ⟨h.ne, (hb.block br (lt_of_heap h.outer)).trans h.outer, (hb.block bb (lt_of_heap h.inner)).trans h.inner, h.short⟩
theorem Rd.facts {br bb : Nat} {st : St} {w : World} (h : Rd br bb st w) : w.cell? ⟨br, 0, none⟩ = some (.pointer (some ⟨bb, 0, none⟩)) ∧ w.cell? ⟨bb, 0, none⟩ = some (.string ⟨st.1.toArray⟩) ∧ w.cell? ⟨bb, 1, none⟩ = some (.int .i64 (st.2 : Nat)) ∧
    w.frozen? ⟨bb, 0, none⟩ = false ∧ w.frozen? ⟨bb, 1, none⟩ = false :=
  ⟨cell_of_row w br 0 _ _ _ h.outer, cell_of_row w bb 0 _ _ _ h.inner, cell_of_row w bb 1 _ _ _ h.inner, by unfold World.frozen?; rw [h.inner]; rfl, by unfold World.frozen?; rw [h.inner]; rfl⟩
theorem heap_set_ne {w : World} {b c : Nat} (h : c ≠ b) (k : Nat) (v : Value) : (w.setCell ⟨b, k, none⟩ v).heap[c]? = w.heap[c]? := by
  simp only [World.setCell, Array.getElem?_modify]
  rw [if_neg (fun e => h e.symm)]
theorem Rd.fail {br bb : Nat} {st : St} {w : World} (h : Rd br bb st w) (e : Nat) : Rd br bb (st.1, e) (w.setCell ⟨bb, 1, none⟩ (.int .i64 (e : Nat))) :=
  ⟨h.ne, (heap_set_ne h.ne _ _).trans h.outer, by rw [heap_set h.inner]; rfl, h.short⟩
theorem Rd.go {br bb : Nat} {st : St} {w : World} (h : Rd br bb st w) (s : List UInt8) (hs : s.length ≤ 140737488355328) : Rd br bb (s, st.2) (w.setCell ⟨bb, 0, none⟩ (.string ⟨s.toArray⟩)) :=
  ⟨h.ne, (heap_set_ne h.ne _ _).trans h.outer, by rw [heap_set h.inner]; rfl, hs⟩
theorem Rd.drewN {br bb : Nat} {st : St} {w : World} (h : Rd br bb st w) (n : Nat) : Rd br bb st (w.drewN n) := ⟨h.ne, h.outer, h.inner, h.short⟩

/-- The call returned v; the reader stands at st; nothing else that was there at w0 has turned. -/
def RdRet (w0 : World) (br bb : Nat) (st : St) (v : Value) (e : Ending) (w' : World) : Prop := e = .returned v ∧ Rd br bb st w' ∧ w0.grownBy w' (some bb)

theorem numG_rest : ∀ (i acc : Nat) (s : List UInt8), (numG i acc s).2.1.length ≤ s.length
  | i, acc, [] => by unfold numG; split <;> simp
  | i, acc, c :: s => by
    unfold numG
    split
    · simp
    · split
      · split <;> simp
      · have := numG_rest (i + 1) (acc + c.toNat % 128 * 128 ^ i) s; simp; omega

theorem takeR_bad {pass : Nat → List UInt8 → List UInt8 × Nat} {s : List UInt8} {f : Nat} (h : f ≠ 0) : takeR pass (s, f) = (0, (s, f)) := by unfold takeR; simp [h]
theorem takeR_num {pass : Nat → List UInt8 → List UInt8 × Nat} {s rest : List UInt8} {n e : Nat} (h : numR s = (n, rest, e)) (he : e ≠ 0) : takeR pass (s, 0) = (0, (s, e)) := by unfold takeR; simp [h, he]
theorem takeR_pass {pass : Nat → List UInt8 → List UInt8 × Nat} {s rest r2 : List UInt8} {n e : Nat} (h : numR s = (n, rest, 0)) (h2 : pass n rest = (r2, e)) (he : e ≠ 0) : takeR pass (s, 0) = (0, (s, e)) := by unfold takeR; simp [h, h2, he]
theorem takeR_ok {pass : Nat → List UInt8 → List UInt8 × Nat} {s rest r2 : List UInt8} {n : Nat} (h : numR s = (n, rest, 0)) (h2 : pass n rest = (r2, 0)) : takeR pass (s, 0) = (n, (r2, 0)) := by unfold takeR; simp [h, h2]

set_option maxRecDepth 100000 in
set_option maxHeartbeats 1000000 in
theorem take_pure (kf : Nat) (cap : Array Value) (pass : Nat → List UInt8 → List UInt8 × Nat) (br bb : Nat) (s : List UInt8) (f : Nat) (w0 w : World) (h : Rd br bb (s, f) w) (hg : w0.grownBy w (some bb)) 
    (hent : ∀ args w, (callFunc kf args).run Try.prog w = .ok (.enter kf args) w) (hlen : ∀ n rest, (pass n rest).1.length ≤ rest.length)
    (hpass : ∀ n rest W, Below w.heap.size w W → n < 9223372036854775808 → rest.length ≤ 140737488355328 → Calls Try.prog kf (#[.int .i64 (n : Nat), .string ⟨rest.toArray⟩] ++ cap) W (Ret W (.tuple #[.string ⟨(pass n rest).1.toArray⟩, .int .i64 ((pass n rest).2 : Nat)]))) :
    Calls Try.prog 51 #[.pointer (some ⟨br, 0, none⟩), .func (.func kf) #[] cap] w (RdRet w0 br bb (takeR pass (s, f)).2 (.int .i64 ((takeR pass (s, f)).1 : Nat))) := by
  have hs := h.short
  by_cases hf : f = 0
  · subst hf
    obtain ⟨c, c0, c1, f0, f1⟩ := h.facts
    have hN := number_any bb 0 s w h.inner hs
    rcases hnr : numR s with ⟨n, rest, e⟩
    rw [hnr] at hN
    by_cases he : e = 0
    · subst he
      rcases hps : pass n rest with ⟨r2, e2⟩
      have hP := fun W hW => hpass n rest W hW (numR_back hnr).2 (by have := numG_rest 0 0 s; rw [show numG 0 0 s = numR s from rfl, hnr] at this; simp at this hs; omega)
      have hL := hlen n rest
      rw [hps] at hL
      rw [hps] at hP
      have hr2 : r2.length ≤ 140737488355328 := by have := numG_rest 0 0 s; rw [show numG 0 0 s = numR s from rfl, hnr] at this; simp at this hL hs; omega
      have HNR := Lib.hid hnr
      have HPS := Lib.hid hps
      clear hnr hps hlen hpass
      by_cases he2 : e2 = 0
      · subst he2
        rw [takeR_ok HNR.out HPS.out]
        go_enter Try.func51, Try.ntmps51
        go_wp2_with (fail)
        refine hN.mono ?_
        rintro e w1 ⟨rfl, hb1⟩
        have h1 := h.below hb1
        obtain ⟨d, d0, d1, g0, g1⟩ := h1.facts
        go_wp2_with (fail)
        refine (hP _ hb1).mono ?_
        rintro e w2 ⟨rfl, hb2⟩
        have h2 := h1.below hb2
        clear d d0 d1 g0 g1
        obtain ⟨d, d0, d1, g0, g1⟩ := h2.facts
        go_wp2_with (fail)
        go_ret
        exact ⟨rfl, h2.go r2 hr2, gb_set (gb_below (gb_below hg hb1) hb2) (.inl rfl) _⟩
      · rw [takeR_pass HNR.out HPS.out he2]
        have he2' : ((e2 : Int) != 0) = true := by simpa using he2
        go_enter Try.func51, Try.ntmps51
        go_wp2_with (fail)
        refine hN.mono ?_
        rintro e w1 ⟨rfl, hb1⟩
        have h1 := h.below hb1
        obtain ⟨d, d0, d1, g0, g1⟩ := h1.facts
        go_wp2_with (fail)
        refine (hP _ hb1).mono ?_
        rintro e w2 ⟨rfl, hb2⟩
        have h2 := h1.below hb2
        clear d d0 d1 g0 g1
        obtain ⟨d, d0, d1, g0, g1⟩ := h2.facts
        go_wp2_with (fail)
        go_ret
        exact ⟨rfl, h2.fail e2, gb_set (gb_below (gb_below hg hb1) hb2) (.inl rfl) _⟩
    · have HNR := Lib.hid hnr
      clear hnr hlen hpass
      rw [takeR_num HNR.out he]
      have he1 : ((e : Int) == 0) = false := by simpa using he
      have he2 : ((e : Int) != 0) = true := by simpa using he
      go_enter Try.func51, Try.ntmps51
      go_wp2_with (fail)
      refine hN.mono ?_
      rintro x w1 ⟨rfl, hb1⟩
      have h1 := h.below hb1
      obtain ⟨d, d0, d1, g0, g1⟩ := h1.facts
      go_wp2_with (fail)
      go_ret
      exact ⟨rfl, h1.fail e, gb_set (gb_below hg hb1) (.inl rfl) _⟩
  · rw [takeR_bad hf]
    clear hlen hpass
    obtain ⟨c, c0, c1, f0, f1⟩ := h.facts
    have he2 : ((f : Int) != 0) = true := by simpa using hf
    go_enter Try.func51, Try.ntmps51
    go_wp2_with (fail)
    go_ret
    exact ⟨rfl, h, hg⟩
end Go.Proofs.Ytknoedlelmflhaa
