/- The document's sender: how it lies in memory; what is asked of it and turns nothing. -/
import Derived.Test.YtknoedlelmflhaaMux1
import Derived.Test.YtknoedlelmflhaaWholeRows
import Derived.Test.YtknoedlelmflhaaLoads
import Derived.Deep.MidRow
namespace Go.Proofs.Ytknoedlelmflhaa
open Go.RowKit Plain

/-- a call as the document keeps it: five cells -/
def clV (x : Snd × Bool) : List Value := [.string ⟨x.1.t.toArray⟩, .int .i64 (x.1.s : Nat), .int .i64 (x.1.a : Nat), .bool x.1.b, .bool x.2]
def rowsV (l : List (Snd × Bool)) : List Value := l.flatMap clV
def offs (cs : List Snd) : List (Snd × Bool) := cs.map fun c => (c, false)
theorem offs_length (cs : List Snd) : (offs cs).length = cs.length := by simp [offs]
theorem clV_length (x : Snd × Bool) : (clV x).length = 5 := rfl
theorem clV_oneCell (x : Snd × Bool) : ∀ u ∈ clV x, u.oneCell' = true := by
  intro u hu
  simp [clV] at hu
  rcases hu with rfl | rfl | rfl | rfl | rfl <;> rfl
theorem rowsV_cons (x : Snd × Bool) (l : List (Snd × Bool)) : rowsV (x :: l) = clV x ++ rowsV l := by simp [rowsV]
theorem rowsV_append (l m : List (Snd × Bool)) : rowsV (l ++ m) = rowsV l ++ rowsV m := by simp [rowsV]
theorem rowsV_length (l : List (Snd × Bool)) : (rowsV l).length = l.length * 5 := by
  induction l with
  | nil => rfl
  | cons x l ih => rw [rowsV_cons, List.length_append, clV_length, ih, List.length_cons]; omega
theorem rowsV_get (l : List (Snd × Bool)) : ∀ (j : Nat) (h : j < l.length) (i : Nat), i < 5 → (rowsV l)[j * 5 + i]? = (clV l[j])[i]? := by
  induction l with
  | nil => intro j h; simp at h
  | cons x l ih =>
    intro j h i hi
    rw [rowsV_cons]
    cases j with
    | zero => rw [List.getElem?_append_left (by rw [clV_length]; omega)]; simp
    | succ j =>
      rw [List.getElem?_append_right (by rw [clV_length]; omega), clV_length, List.getElem_cons_succ, ← ih j (by simpa using h) i hi]
      congr 1; omega
theorem rowsV_set (l : List (Snd × Bool)) : ∀ (j : Nat) (_ : j < l.length) (x : Snd × Bool), rowsV (l.set j x) = (rowsV l).take (j * 5) ++ clV x ++ (rowsV l).drop (j * 5 + 5) := by
  induction l with
  | nil => intro j h; simp at h
  | cons y l ih =>
    intro j h x
    cases j with
    | zero =>
      rw [List.set_cons_zero, rowsV_cons, rowsV_cons]
      simp [List.drop_append, clV_length]
    | succ j =>
      rw [List.set_cons_succ, rowsV_cons, rowsV_cons, ih j (by simpa using h) x]
      have h1 : (clV y).take ((j + 1) * 5) = clV y := List.take_of_length_le (by rw [clV_length]; omega)
      have h2 : (clV y).drop ((j + 1) * 5 + 5) = [] := List.drop_eq_nil_of_le (by rw [clV_length]; omega)
      rw [List.take_append, List.drop_append, clV_length, h1, h2]
      rw [show (j + 1) * 5 - 5 = j * 5 by omega, show (j + 1) * 5 + 5 - 5 = j * 5 + 5 by omega]
      simp
theorem mid_take {α : Type} (A vs : List α) (o m : Nat) (hv : vs.length = 5) (h1 : o + 5 ≤ m) (h2 : m ≤ A.length) : (A.take o ++ vs ++ A.drop (o + 5)).take m = (A.take m).take o ++ vs ++ (A.take m).drop (o + 5) := by
  have hl : (A.take o ++ vs).length = o + 5 := by simp [hv]; omega
  rw [List.take_append, hl, List.take_of_length_le (by omega), List.take_take, Nat.min_eq_left (by omega), List.drop_take]

section
variable {w w' : World} {base g c : Nat} {l : List (Snd × Bool)}
theorem row_some {A : Option Addr} (h : w.ownsRow base 87 5 (.slice A l.length c) l.length (rowsV l)) (hn : 0 < l.length) : ∃ g, A = some ⟨g, 0, none⟩ ∧ base ≤ g ∧ g < w.heap.size := by
  rcases h.2 with ⟨h1, h2⟩ | ⟨g, cap, cur, h1, h2, h3, -⟩
  · omega
  · injection h1 with h1
    exact ⟨g, h1, h2, lt_heap h3⟩
where lt_heap {w : World} {b : Nat} {o : Obj} (h : w.heap[b]? = some o) : b < w.heap.size := (Array.getElem?_eq_some_iff.1 h).1
theorem row_cell (h : w.ownsRow base 87 5 (.slice (some ⟨g, 0, none⟩) l.length c) l.length (rowsV l)) {j : Nat} (hj : j < l.length) {i : Nat} (hi : i < 5) : w.cell? ⟨g, j * 5 + i, none⟩ = (clV l[j])[i]? := by
  have h1 := rowsV_get l j hj i hi
  have h2 : i < (clV l[j]).length := by rw [clV_length]; exact hi
  rw [List.getElem?_eq_getElem h2] at h1 ⊢
  have := h.cells (g := g) rfl (j * 5 + i) _ h1
  simpa [Addr.add_mid] using this
theorem row_there (h : w.ownsRow base 87 5 (.slice (some ⟨g, 0, none⟩) l.length c) l.length (rowsV l)) {j : Nat} (hj : j < l.length) : w.there g (j * 5) 5 := by
  intro i hi
  refine ⟨?_, ?_⟩
  · rw [row_cell h hj hi]
    rw [List.getElem?_eq_getElem (by rw [clV_length]; exact hi)]; rfl
  · rcases h.2 with ⟨h1, h2⟩ | ⟨g', cap, cur, h1, h2, h3, -⟩
    · cases h1
    · injection h1 with h1 _ _
      injection h1 with h1
      injection h1 with h1 _ _
      subst h1
      exact frozen_of_row w g _ _ _ h3
theorem row_range (h : w.ownsRow base 87 5 (.slice (some ⟨g, 0, none⟩) l.length c) l.length (rowsV l)) {j : Nat} (hj : j < l.length) : w.rangeAt g (j * 5) (clV l[j]) := by
  intro i v hv
  have hi : i < 5 := by have := (List.getElem?_eq_some_iff.1 hv).1; rwa [clV_length] at this
  rw [row_cell h hj hi]; exact hv
theorem row_set (h : w.ownsRow base 87 5 (.slice (some ⟨g, 0, none⟩) l.length c) l.length (rowsV l)) {j : Nat} (hj : j < l.length) (x : Snd × Bool) :
    (w.setCells g (j * 5) (clV x)).ownsRow base 87 5 (.slice (some ⟨g, 0, none⟩) l.length c) l.length (rowsV (l.set j x)) ∧ w.grownBy (w.setCells g (j * 5) (clV x)) (some g) := by
  rcases h.2 with ⟨h1, h2⟩ | ⟨g', cap, cur, h1, h2, h3, h4, h5, h6, h7⟩
  · cases h1
  · injection h1 with h1 _ h1c
    injection h1 with h1
    injection h1 with h1 _ _
    subst h1 h1c
    obtain ⟨e1, e2, e3⟩ := heap_setCells (clV x) (j * 5) cur w h3 (by rw [clV_length, h6]; omega)
    rw [clV_length] at e1
    refine ⟨⟨by rw [rowsV_length, List.length_set], .inr ⟨g, c, _, rfl, h2, e1, h4, h5, ?_, ?_⟩⟩, e2⟩
    · simp [clV_length]; omega
    · show (List.take _ _) = _
      rw [mid_take _ _ _ _ (clV_length x) (by omega) (by simp; omega), h7, rowsV_set l j hj x]
end

structure ROut (S : Nat → Prop) (base bx win size : Nat) (cs : List Snd) (v : Value) (w : World) : Prop where
  head : w.heap[bx]? = some (.cells #[.int .i64 (win : Nat), .int .i64 (size : Nat), v] 53 (0, 0))
  own : w.ownsRow base 87 5 v (offs cs).length (rowsV (offs cs))
  apart : v.ownBlock ≠ some bx
  inS : S bx ∧ ∀ g, v.ownBlock = some g → S g
  lain : Lain base S w
  ok : OkS cs
def ROutAt (S : Nat → Prop) (base bx win size : Nat) (cs : List Snd) (w : World) : Prop := ∃ v, ROut S base bx win size cs v w

section
variable {S T : Nat → Prop} {base bx win size : Nat} {cs : List Snd} {v : Value} {w w' : World}
theorem ROut.only (h : ROut S base bx win size cs v w) (ho : Only T w w') (hd : Dis S T) : ROut S base bx win size cs v w' :=
  ⟨(ho.block bx (h.lain bx h.inS.1).2 (hd bx h.inS.1)).trans h.head, own_only h.own ho (fun k hk => hd k (h.inS.2 k hk)), h.apart, h.inS, h.lain.mono ho.size, h.ok⟩
theorem ROutAt.only (h : ROutAt S base bx win size cs w) (ho : Only T w w') (hd : Dis S T) : ROutAt S base bx win size cs w' := by
  obtain ⟨v, h⟩ := h
  exact ⟨v, h.only ho hd⟩
theorem ROut.below (h : ROut S base bx win size cs v w) (hb : Below w.heap.size w w') : ROut S base bx win size cs v w' := h.only (Only.of_below (S := fun _ => False) hb) dis_none
theorem ROutAt.below (h : ROutAt S base bx win size cs w) (hb : Below w.heap.size w w') : ROutAt S base bx win size cs w' := h.only (Only.of_below (S := fun _ => False) hb) dis_none
theorem ROut.facts (h : ROut S base bx win size cs v w) : w.cell? ⟨bx, 0, none⟩ = some (.int .i64 (win : Nat)) ∧ w.cell? ⟨bx, 1, none⟩ = some (.int .i64 (size : Nat)) ∧ w.cell? ⟨bx, 2, none⟩ = some v ∧ w.frozen? ⟨bx, 2, none⟩ = false :=
  ⟨cell_of_row _ _ _ _ _ _ h.head, cell_of_row _ _ _ _ _ _ h.head, cell_of_row _ _ _ _ _ _ h.head, frozen_of_row _ _ _ _ _ h.head⟩
theorem ROut.slice (h : ROut S base bx win size cs v w) : ∃ A c, v = .slice A cs.length c ∧ cs.length ≤ c ∧ c ≤ maxLen := by
  obtain ⟨A, c, e, h1, h2, -⟩ := IsSlice.of_own h.own
  rw [offs_length] at e h1
  exact ⟨A, c, e, h1, h2⟩
/-- the cells of call k -/
theorem ROut.at_ {A : Option Addr} {c : Nat} (h : ROut S base bx win size cs (.slice A cs.length c) w) {k : Nat} (hk : k < cs.length) : ∃ g, A = some ⟨g, 0, none⟩ ∧ S g ∧ g ≠ bx ∧ g < w.heap.size ∧
    w.cell? ⟨g, k * 5, none⟩ = some (.string ⟨cs[k].t.toArray⟩) ∧ w.cell? ⟨g, k * 5 + 1, none⟩ = some (.int .i64 (cs[k].s : Nat)) ∧ w.cell? ⟨g, k * 5 + 2, none⟩ = some (.int .i64 (cs[k].a : Nat)) ∧ w.cell? ⟨g, k * 5 + 3, none⟩ = some (.bool cs[k].b) ∧ w.cell? ⟨g, k * 5 + 4, none⟩ = some (.bool false) := by
  have ho := h.own
  have hk' : k < (offs cs).length := by rw [offs_length]; exact hk
  rw [← offs_length cs] at ho
  obtain ⟨g, rfl, hg, hgs⟩ := row_some ho (by omega)
  have e : (offs cs)[k] = (cs[k], false) := by simp [offs]
  refine ⟨g, rfl, h.inS.2 g rfl, fun e => h.apart (by rw [e]; rfl), hgs, ?_, ?_, ?_, ?_, ?_⟩
  · have := row_cell ho hk' (i := 0) (by omega); rw [e] at this; exact this
  · have := row_cell ho hk' (i := 1) (by omega); rw [e] at this; exact this
  · have := row_cell ho hk' (i := 2) (by omega); rw [e] at this; exact this
  · have := row_cell ho hk' (i := 3) (by omega); rw [e] at this; exact this
  · have := row_cell ho hk' (i := 4) (by omega); rw [e] at this; exact this
end

set_option maxRecDepth 100000 in
set_option maxHeartbeats 1000000 in
theorem Rwaits_any (c : Snd) (d : Bool) (w : World) (hok : okC c) :
    Calls Try.prog 32 #[.agg #[.string ⟨c.t.toArray⟩, .int .i64 (c.s : Nat), .int .i64 (c.a : Nat), .bool c.b, .bool d]] w (Ret w (.bool (waitsB c))) := by
  obtain ⟨t, g, s, a⟩ := c
  obtain ⟨h1, h2, h3⟩ := hok
  simp only at h1 h2 h3 ⊢
  by_cases q : s < t.length
  · have hw : waitsB ⟨t, g, s, a⟩ = true := by simp [waitsB, q]
    have q' : decide ((s : Int) < (t.length : Int)) = true := by simpa using q
    rw [hw]
    clear hw
    go_enter Try.func32, Try.ntmps32
    go_wp2_with (fail)
    go_ret
    exact ⟨rfl, (Below.refl _ _).alloc (Nat.le_refl _) _⟩
  · have q' : decide ((s : Int) < (t.length : Int)) = false := by simpa using q
    by_cases q2 : t = []
    · subst q2
      have hs : s = 0 := by simp at h2; omega
      subst hs
      have hw : waitsB ⟨[], g, 0, a⟩ = !g := by simp [waitsB]
      rw [hw]
      clear hw
      go_enter Try.func32, Try.ntmps32
      go_wp2_with (fail)
      go_ret
      exact ⟨rfl, (Below.refl _ _).alloc (Nat.le_refl _) _⟩
    · have hw : waitsB ⟨t, g, s, a⟩ = false := by cases t with | nil => exact absurd rfl q2 | cons => simp [waitsB]; simpa using q
      have q3 : ((t.length : Int) == 0) = false := by cases t with | nil => exact absurd rfl q2 | cons => simp; omega
      rw [hw]
      clear hw q2
      go_enter Try.func32, Try.ntmps32
      go_wp2_with (fail)
      go_ret
      exact ⟨rfl, (Below.refl _ _).alloc (Nat.le_refl _) _⟩

section
variable {S : Nat → Prop} {base bx win size : Nat} {cs : List Snd}
set_option maxRecDepth 100000 in
set_option maxHeartbeats 2000000 in
theorem RLeftOut_any (w : World) (h : ROutAt S base bx win size cs w) :
    Calls Try.prog 22 #[.pointer (some ⟨bx, 0, none⟩)] w (Ret w (.int .i64 (leftP cs : Nat))) := by
  obtain ⟨v, h⟩ := h
  have hcl := h.ok.1
  obtain ⟨A, c, rfl, hc, hm⟩ := h.slice
  have H := Lib.hid h
  clear h
  go_enter Try.func22, Try.ntmps22
  go_wp2_with (fail)
  go_loopw [3, 4] (fun t3 t4 W => ∃ k : Nat, k ≤ cs.length ∧ t4 = .int .i64 (k : Nat) ∧ t3 = .int .i64 (leftK cs k : Nat) ∧ Below w.heap.size w W) (fun _ t4 _ => cs.length - (intOf t4).toNat)
  case atStart => exact ⟨0, by omega, rfl, rfl, Below.refl _ _⟩
  case round =>
    obtain ⟨k, hk, rfl, rfl, hb⟩ := hrel
    have h2 := H.out.below hb
    obtain ⟨c0, c1, c2, -⟩ := h2.facts
    by_cases hlt : k < cs.length
    · obtain ⟨g, rfl, -, -, -, d0, d1, d2, d3, d4⟩ := h2.at_ hlt
      have hok := h2.ok.at_ hlt
      have hW := fun W => Rwaits_any cs[k] false W hok
      have hsucc := leftK_succ hlt
      have hle := leftK_le cs k
      generalize leftK cs k = m at *
      generalize cs[k] = d at *
      have HS := Lib.hid hsucc
      clear hsucc hok h2
      by_cases hw : waitsB d = true
      · rw [hw] at hW
        go_wp2_with (fail)
        refine (hW _).mono ?_
        rintro e w1 ⟨rfl, h1⟩
        go_wp2_with (fail)
        go_roundw
        case rel => exact ⟨k + 1, by omega, by go_num, by rw [HS.out, if_pos hw]; go_num, hb.trans (h1.mono hb.size)⟩
        case measure => simp [intOf]; omega
      · have hw' : waitsB d = false := by simpa using hw
        rw [hw'] at hW
        go_wp2_with (fail)
        refine (hW _).mono ?_
        rintro e w1 ⟨rfl, h1⟩
        go_wp2_with (fail)
        go_roundw
        case rel => exact ⟨k + 1, by omega, by go_num, by rw [HS.out, if_neg hw]; rfl, hb.trans (h1.mono hb.size)⟩
        case measure => simp [intOf]; omega
    · obtain rfl : k = cs.length := by omega
      clear h2
      go_wp2_with (fail)
      go_ret
      exact ⟨by rw [leftK_all]; rfl, hb⟩

set_option maxRecDepth 100000 in
set_option maxHeartbeats 1000000 in
theorem RWay_any (n : Int) (w : World) (h : ROutAt S base bx win size cs w) :
    Calls Try.prog 21 #[.pointer (some ⟨bx, 0, none⟩), .int .i64 n] w (Ret w (.int .i64 (wayP cs n : Nat))) := by
  obtain ⟨v, h⟩ := h
  have hcl := h.ok.1
  obtain ⟨A, c, rfl, hc, hm⟩ := h.slice
  obtain ⟨c0, c1, c2, -⟩ := h.facts
  by_cases hn : n < 0 ∨ (cs.length : Int) ≤ n
  · have hw : wayP cs n = 0 := by unfold wayP; rw [if_pos hn]
    rw [hw]
    by_cases hn0 : n < 0
    · have b1 : decide (n < 0) = true := decide_eq_true hn0
      clear h hn hw
      go_enter Try.func21, Try.ntmps21
      go_wp2_with (fail)
      go_ret
      exact ⟨rfl, Below.refl _ _⟩
    · have b1 : decide (n < 0) = false := decide_eq_false hn0
      have b2 : decide ((cs.length : Int) ≤ n) = true := decide_eq_true (by omega)
      clear h hn hw
      go_enter Try.func21, Try.ntmps21
      go_wp2_with (fail)
      go_ret
      exact ⟨rfl, Below.refl _ _⟩
  · obtain ⟨k, rfl⟩ := Int.eq_ofNat_of_zero_le (show 0 ≤ n by omega)
    have hk : k < cs.length := by omega
    have hw : wayP cs (k : Int) = wayC cs[k] := by unfold wayP; rw [if_neg hn]; simp only [Int.toNat_natCast]; rw [getD_get hk]
    rw [hw]
    obtain ⟨g, rfl, -, -, -, d0, d1, d2, d3, d4⟩ := h.at_ hk
    obtain ⟨o1, o2, o3⟩ := h.ok.at_ hk
    have hway : ((wayC cs[k] : Nat) : Int) = (cs[k].s : Int) - cs[k].a := by unfold wayC; omega
    rw [hway]
    generalize cs[k] = d at *
    clear h hn hw hway d0 d3 d4
    go_enter Try.func21, Try.ntmps21
    go_wp2_with (fail)
    go_quiet (fail)
    go_wp2_with (fail)
    go_ret
    exact ⟨rfl, below_drewN (Below.refl _ _) _⟩
end
end Go.Proofs.Ytknoedlelmflhaa
