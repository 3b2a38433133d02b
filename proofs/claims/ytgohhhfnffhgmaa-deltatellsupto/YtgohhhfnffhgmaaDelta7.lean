/- delta.Make's closure: the text at hand becomes a step. -/
import Derived.Test.YtgohhhfnffhgmaaDelta5
import Derived.Test.YtgohhhfnffhgmaaDelta6
import Derived.Test.YtgohhhfnffhgmaaOnly
import Derived.Deep.AppendLies
import Derived.Deep.RegionHeld3
import Derived.Deep.RegionLaw
namespace Go.Proofs.Ytgohhhfnffhgmaa
open Go.RowKit Plain

/-- what Make's loop holds: the text, the maker, the steps, where the text at hand begins -/
structure MS (D mb M Mm O F base : Nat) (data : List UInt8) (lv : Value) (a n from' : Nat) (ops : List Stp) (v : Value) (W : World) : Prop where
  d : W.heap[D]? = some (.cells #[.string ⟨data.toArray⟩] 9 (0, 0))
  m : MkAt M data a n (.map (some mb)) lv W
  mm : W.heap[Mm]? = some (.cells #[.pointer (some ⟨M, 0, none⟩)] 57 (0, 0))
  o : W.heap[O]? = some (.cells #[v] 34 (0, 0))
  f : W.heap[F]? = some (.cells #[.int .i64 (from' : Nat)] 3 (0, 0))
  own : OpsAt W base v ops
  ord : D < mb ∧ mb < M ∧ M < Mm ∧ Mm < O ∧ O < F ∧ F < base
  size : base ≤ W.heap.size
def Part (M O F base : Nat) (b : Nat) : Prop := b = M ∨ b = O ∨ b = F ∨ base ≤ b
section
variable {D mb M Mm O F base : Nat} {data : List UInt8} {lv : Value} {a n from' : Nat} {ops : List Stp} {v : Value} {W W' : World}
theorem MS.facts (h : MS D mb M Mm O F base data lv a n from' ops v W) : W.cell? ⟨D, 0, none⟩ = some (.string ⟨data.toArray⟩) ∧ W.cell? ⟨M, 1, none⟩ = some (.int .i64 (a : Nat)) ∧ W.cell? ⟨M, 2, none⟩ = some (.int .i64 (n : Nat)) ∧ W.cell? ⟨Mm, 0, none⟩ = some (.pointer (some ⟨M, 0, none⟩)) ∧ W.cell? ⟨O, 0, none⟩ = some v ∧ W.cell? ⟨F, 0, none⟩ = some (.int .i64 (from' : Nat)) :=
  ⟨cell_of_row _ _ _ _ _ _ h.d, h.m.cells.2.1, h.m.cells.2.2.1, cell_of_row _ _ _ _ _ _ h.mm, cell_of_row _ _ _ _ _ _ h.o, cell_of_row _ _ _ _ _ _ h.f⟩
theorem MS.below (h : MS D mb M Mm O F base data lv a n from' ops v W) (hb : Below W.heap.size W W') : MS D mb M Mm O F base data lv a n from' ops v W' := by
  have hs := h.size
  have ho := h.ord
  exact ⟨(hb.block D (by omega)).trans h.d, h.m.same (hb.block M (by omega)), (hb.block Mm (by omega)).trans h.mm, (hb.block O (by omega)).trans h.o, (hb.block F (by omega)).trans h.f, h.own.below hb, h.ord, by have := hb.size; omega⟩
/-- the maker alone has turned -/
theorem MS.maker (h : MS D mb M Mm O F base data lv a n from' ops v W) {a' n' : Nat} (hg : W.grownBy W' (some M)) (hm : MkAt M data a' n' (.map (some mb)) lv W') : MS D mb M Mm O F base data lv a' n' from' ops v W' := by
  have hs := h.size
  have ho := h.ord
  have hne : ∀ b, b ≠ M → some b ≠ some M := fun b hb e => hb (by injection e)
  exact ⟨(hg.block D (by omega) (hne _ (by omega))).trans h.d, hm, (hg.block Mm (by omega) (hne _ (by omega))).trans h.mm, (hg.block O (by omega) (hne _ (by omega))).trans h.o, (hg.block F (by omega) (hne _ (by omega))).trans h.f,
    own_keep h.own (fun b hb hlt => hg.block b hlt (hne _ (by omega))), h.ord, by have := hg.size; omega⟩
/-- a step more -/
theorem MS.put (h : MS D mb M Mm O F base data lv a n from' ops v W) {o : Obj} {w5 : World} {v' : Value} {x : Stp} (hg : (World.drew (W.alloc o)).grownBy w5 v.ownBlock) (hown : w5.ownsRow base 46 3 v' (ops.length + 1) (rowsE stpV ops ++ stpV x)) :
    MS D mb M Mm O F base data lv a n from' (ops ++ [x]) v' (w5.setCell ⟨O, 0, none⟩ v') ∧ Only (Part M O F base) W (w5.setCell ⟨O, 0, none⟩ v') := by
  have hs := h.size
  have ho := h.ord
  have hne : ∀ b, b < base → v.ownBlock ≠ some b := fun b hb e => by have := (h.own.lt b e).1; omega
  have hb : ∀ b, b < base → w5.heap[b]? = W.heap[b]? := fun b hb => by
    have h1 := hg.block b (by simp; omega) (fun e => hne b hb e.symm)
    rw [h1]
    exact Below.heap_alloc _ _ _ (by omega)
  have hb2 : ∀ b, b ≠ O → (w5.setCell ⟨O, 0, none⟩ v').heap[b]? = w5.heap[b]? := fun b hb => Below.heap_setCell w5 ⟨O, 0, none⟩ v' b hb
  have h5 : W.heap.size ≤ w5.heap.size := by have := hg.size; simp at this; omega
  have hsz : (w5.setCell ⟨O, 0, none⟩ v').heap.size = w5.heap.size := by simp [World.setCell]
  refine ⟨⟨?_, ?_, ?_, ?_, ?_, ?_, h.ord, by omega⟩, ?_⟩
  · rw [hb2 _ (by omega), hb _ (by omega)]; exact h.d
  · exact h.m.same (by rw [hb2 _ (by omega), hb _ (by omega)])
  · rw [hb2 _ (by omega), hb _ (by omega)]; exact h.mm
  · rw [heap_set ((hb O (by omega)).trans h.o) 0 v']; rfl
  · rw [hb2 _ (by omega), hb _ (by omega)]; exact h.f
  · unfold OpsAt
    rw [rowsE_append, rowsE_one, List.length_append]
    exact own_keep hown (fun b hb' _ => hb2 b (by omega))
  · refine ⟨?_, ?_, ?_, by omega, fun k hk hn => ?_⟩
    · exact hg.os
    · exact hg.tape
    · exact hg.output
    · have hk' : k < base := by
        rcases Nat.lt_or_ge k base with h' | h'
        · exact h'
        · exact absurd (.inr (.inr (.inr h'))) hn
      rw [hb2 k (fun e => hn (.inr (.inl e))), hb k hk']
theorem only_gb {S : Nat → Prop} {g : Nat} (hg : W.grownBy W' (some g)) (hS : S g) : Only S W W' := Only.of_gb hg (fun k hk => by injection hk with hk; rw [← hk]; exact hS)
end

set_option maxRecDepth 100000 in
set_option maxHeartbeats 4000000 in
theorem flush_any {D mb M Mm O F base : Nat} {data : List UInt8} {lv : Value} {a n from' : Nat} {ops : List Stp} {v : Value} {w : World} (h : MS D mb M Mm O F base data lv a n from' ops v w) (ha : a ≤ data.length) (_hd : data.length ≤ 1048576) (hf : from' ≤ a) (hops : ops.length ≤ 1048576) :
    Calls Try.prog 22 #[.pointer (some ⟨Mm, 0, none⟩), .pointer (some ⟨F, 0, none⟩), .pointer (some ⟨O, 0, none⟩), .pointer (some ⟨D, 0, none⟩)] w fun e w' => e = .returned (.tuple #[]) ∧ Only (Part M O F base) w w' ∧
      ∃ v', MS D mb M Mm O F base data lv a n from' (flushP data from' a ops) v' w' := by
  obtain ⟨cD, cM, cN, cm, cO, cF⟩ := h.facts
  obtain ⟨i0, hi, hz0, hz1, hz2⟩ := info_parts info_Op
  obtain ⟨A, c, rfl⟩ := h.own.slice
  have H := Lib.hid h
  by_cases hlt : from' < a
  case neg =>
    have b1 : decide ((from' : Int) < (a : Int)) = false := decide_eq_false (by omega)
    have e1 : flushP data from' a ops = ops := by unfold flushP; rw [if_neg hlt]
    rw [e1]
    clear h e1 hi
    go_enter Try.func22, Try.ntmps22
    go_wp2_with (fail)
    go_quiet (fail)
    go_wp2_with (fail)
    go_end0
    exact ⟨rfl, (Only.refl _ _).drewN _, _, H.out.below (below_drewN (Below.refl _ _) _)⟩
  case pos =>
    have b1 : decide ((from' : Int) < (a : Int)) = true := decide_eq_true (by omega)
    have e1 : flushP data from' a ops = ops ++ [⟨0, 0, (data.drop from').take (a - from')⟩] := by unfold flushP; rw [if_pos hlt]
    rw [e1]
    have HI := Lib.hid hi
    clear h e1 hi
    go_enter Try.func22, Try.ntmps22
    go_wp2_with (fail)
    go_quiet (fail)
    have H2 := Lib.hid (H.out.below (W' := w.drewN nq) (below_drewN (Below.refl _ _) _))
    have HO2 := Lib.hid ((Only.refl (Part M O F base) w).drewN nq)
    clear cD cM cN cm cO cF
    generalize w.drewN nq = W2 at *
    obtain ⟨cD, cM, cN, cm, cO, cF⟩ := H2.out.facts
    have hsz := H2.out.size
    have hord := H2.out.ord
    have hDl : D < W2.heap.size := by omega
    have hMl : M < W2.heap.size := by omega
    have hMml : Mm < W2.heap.size := by omega
    have hOl : O < W2.heap.size := by omega
    have hFl : F < W2.heap.size := by omega
    have s3 : (World.drew W2).cell? ⟨D, 0, none⟩ = some (.string ⟨data.toArray⟩) ∧ (World.drew W2).cell? ⟨M, 1, none⟩ = some (.int .i64 (a : Nat)) ∧ (World.drew W2).cell? ⟨Mm, 0, none⟩ = some (.pointer (some ⟨M, 0, none⟩)) ∧ (World.drew W2).cell? ⟨F, 0, none⟩ = some (.int .i64 (from' : Nat)) := ⟨cD, cM, cm, cF⟩
    have s4 : ∀ o, (World.drew (W2.alloc o)).cell? ⟨D, 0, none⟩ = some (.string ⟨data.toArray⟩) ∧ (World.drew (W2.alloc o)).cell? ⟨M, 1, none⟩ = some (.int .i64 (a : Nat)) ∧ (World.drew (W2.alloc o)).cell? ⟨Mm, 0, none⟩ = some (.pointer (some ⟨M, 0, none⟩)) ∧ (World.drew (W2.alloc o)).cell? ⟨F, 0, none⟩ = some (.int .i64 (from' : Nat)) := by
      intro o
      have hbo : Below W2.heap.size W2 (World.drew (W2.alloc o)) := ((Below.refl _ _).alloc (Nat.le_refl _) o).drew
      exact ⟨(hbo.cell (p := ⟨D, 0, none⟩) hDl).trans cD, (hbo.cell (p := ⟨M, 1, none⟩) hMl).trans cM, (hbo.cell (p := ⟨Mm, 0, none⟩) hMml).trans cm, (hbo.cell (p := ⟨F, 0, none⟩) hFl).trans cF⟩
    have hown2 : W2.ownsRow base 46 3 (.slice A ops.length c) ops.length (rowsE stpV ops) := H2.out.own
    have HOWN := Lib.hid (fun o => show (World.drew (W2.alloc o)).ownsRow base 46 3 (.slice A ops.length c) ops.length (rowsE stpV ops) from hown2.alloc o)
    have hne : ∀ b, b < base → (Value.slice A ops.length c).ownBlock ≠ some b := fun b hb e => by have := (hown2.lt b e).1; omega
    clear hown2
    have hs5 : ∀ o w5, (World.drew (W2.alloc o)).grownBy w5 (Value.slice A ops.length c).ownBlock → (w5.cell? ⟨D, 0, none⟩ = some (.string ⟨data.toArray⟩) ∧ w5.cell? ⟨M, 1, none⟩ = some (.int .i64 (a : Nat)) ∧ w5.cell? ⟨Mm, 0, none⟩ = some (.pointer (some ⟨M, 0, none⟩)) ∧ w5.cell? ⟨F, 0, none⟩ = some (.int .i64 (from' : Nat))) ∧
        (∀ x, (w5.setCell ⟨O, 0, none⟩ x).cell? ⟨D, 0, none⟩ = some (.string ⟨data.toArray⟩) ∧ (w5.setCell ⟨O, 0, none⟩ x).cell? ⟨M, 1, none⟩ = some (.int .i64 (a : Nat)) ∧ (w5.setCell ⟨O, 0, none⟩ x).cell? ⟨Mm, 0, none⟩ = some (.pointer (some ⟨M, 0, none⟩)) ∧ (w5.setCell ⟨O, 0, none⟩ x).cell? ⟨F, 0, none⟩ = some (.int .i64 (from' : Nat))) ∧
        (w5.frozen? ⟨O, 0, none⟩ = false ∧ w5.cell? ⟨O, 0, none⟩ = some (.slice A ops.length c)) ∧ ∀ b, b < base → w5.heap[b]? = W2.heap[b]? := by
      intro o w5 hg
      have hb : ∀ b, b < base → w5.heap[b]? = W2.heap[b]? := fun b hb => by
        have h1 := hg.block b (by simp; omega) (fun e => hne b hb e.symm)
        rw [h1]
        show (W2.alloc o).heap[b]? = _
        exact Below.heap_alloc _ _ _ (by omega)
      have hc : ∀ (b i : Nat), b < base → w5.cell? ⟨b, i, none⟩ = W2.cell? ⟨b, i, none⟩ := fun b i hb' => by unfold World.cell?; simp only [hb b hb']
      have hx : ∀ (b i : Nat) x, b ≠ O → (w5.setCell ⟨O, 0, none⟩ x).cell? ⟨b, i, none⟩ = w5.cell? ⟨b, i, none⟩ := fun b i x hb' => by unfold World.cell?; rw [Below.heap_setCell w5 ⟨O, 0, none⟩ x b hb']
      refine ⟨⟨(hc D 0 (by omega)).trans cD, (hc M 1 (by omega)).trans cM, (hc Mm 0 (by omega)).trans cm, (hc F 0 (by omega)).trans cF⟩, fun x => ⟨(hx D 0 x (by omega)).trans ((hc D 0 (by omega)).trans cD), (hx M 1 x (by omega)).trans ((hc M 1 (by omega)).trans cM), (hx Mm 0 x (by omega)).trans ((hc Mm 0 (by omega)).trans cm), (hx F 0 x (by omega)).trans ((hc F 0 (by omega)).trans cF)⟩, ⟨?_, (hc O 0 (by omega)).trans cO⟩, hb⟩
      exact frozen_of_row w5 O 0 _ _ ((hb O (by omega)).trans H2.out.o)
    have HS5 := Lib.hid hs5
    clear hs5
    go_wp2_with (fail)
    refine wp_region_noPanic ?_
    refine wp_region_held_drew (S := (fun W => W.cell? ⟨D, 0, none⟩ = some (.string ⟨data.toArray⟩) ∧ W.cell? ⟨M, 1, none⟩ = some (.int .i64 (a : Nat)) ∧ W.cell? ⟨Mm, 0, none⟩ = some (.pointer (some ⟨M, 0, none⟩)) ∧ W.cell? ⟨F, 0, none⟩ = some (.int .i64 (from' : Nat)))) (by kernel_rfl) s3 (fun hHeld => ?_)
    refine wpAnyH_take (i := 1) (oi := _) (v := ?_) rfl (by kernel_rfl) (by kernel_rfl) (by kernel_rfl) (fun _ _ _ h => h) (Or.inl ⟨by rfl, ?_⟩) (by assumption) ?_
    rotate_left 1
    · intro w hSw
      (try dsimp only at hSw)
      go_simp
      (try with_reducible rfl)
    try simp only [List.getElem_toArray, List.getElem_cons_zero, List.getElem_cons_succ, Act.put, List.setIfInBounds_toArray, List.set_cons_zero, List.set_cons_succ]
    refine wpAnyH_take (i := 2) (oi := _) (v := ?_) rfl (by kernel_rfl) (by kernel_rfl) (by kernel_rfl) (fun _ _ _ h => h) (Or.inl ⟨by rfl, ?_⟩) (by assumption) ?_
    rotate_left 1
    · intro w hSw
      (try dsimp only at hSw)
      go_simp
      (try with_reducible rfl)
    try simp only [List.getElem_toArray, List.getElem_cons_zero, List.getElem_cons_succ, Act.put, List.setIfInBounds_toArray, List.set_cons_zero, List.set_cons_succ]
    refine wpAnyH_take (i := 3) (oi := _) (v := ?_) rfl (by kernel_rfl) (by kernel_rfl) (by kernel_rfl) (fun _ _ _ h => h) (Or.inl ⟨by rfl, ?_⟩) (by assumption) ?_
    rotate_left 1
    · intro w hSw
      (try dsimp only at hSw)
      go_simp
      (try with_reducible rfl)
    try simp only [List.getElem_toArray, List.getElem_cons_zero, List.getElem_cons_succ, Act.put, List.setIfInBounds_toArray, List.set_cons_zero, List.set_cons_succ]
    refine wpAnyH_take (i := 4) (oi := _) (v := ?_) rfl (by kernel_rfl) (by kernel_rfl) (by kernel_rfl) (fun _ _ _ h => h) (Or.inl ⟨by rfl, ?_⟩) (by assumption) ?_
    rotate_left 1
    · intro w hSw
      (try dsimp only at hSw)
      go_simp
      (try with_reducible rfl)
    try simp only [List.getElem_toArray, List.getElem_cons_zero, List.getElem_cons_succ, Act.put, List.setIfInBounds_toArray, List.set_cons_zero, List.set_cons_succ]
    refine wpAnyH_take (i := 5) (oi := _) (v := ?_) rfl (by kernel_rfl) (by kernel_rfl) (by kernel_rfl) (fun _ _ _ h => h) (Or.inl ⟨by rfl, ?_⟩) (by assumption) ?_
    rotate_left 1
    · intro w hSw
      (try dsimp only at hSw)
      go_simp
      (try with_reducible rfl)
    try simp only [List.getElem_toArray, List.getElem_cons_zero, List.getElem_cons_succ, Act.put, List.setIfInBounds_toArray, List.set_cons_zero, List.set_cons_succ]
    refine wpAnyH_take (i := 6) (oi := _) (v := ?_) rfl (by kernel_rfl) (by kernel_rfl) (by kernel_rfl) (fun _ _ _ h => h) (Or.inl ⟨by rfl, ?_⟩) (by assumption) ?_
    rotate_left 1
    · intro w hSw
      (try dsimp only at hSw)
      go_simp
      (try with_reducible rfl)
    try simp only [List.getElem_toArray, List.getElem_cons_zero, List.getElem_cons_succ, Act.put, List.setIfInBounds_toArray, List.set_cons_zero, List.set_cons_succ]
    refine wpAnyH_take (i := 7) (oi := _) (v := ?_) rfl (by kernel_rfl) (by kernel_rfl) (by kernel_rfl) (fun _ _ _ h => h) (Or.inl ⟨by rfl, ?_⟩) (by assumption) ?_
    rotate_left 1
    · intro w hSw
      (try dsimp only at hSw)
      go_simp
      (try with_reducible rfl)
    try simp only [List.getElem_toArray, List.getElem_cons_zero, List.getElem_cons_succ, Act.put, List.setIfInBounds_toArray, List.set_cons_zero, List.set_cons_succ]
    refine wpAnyH_take (i := 8) (oi := _) (v := ?_) rfl (by kernel_rfl) (by kernel_rfl) (by kernel_rfl) (fun _ _ _ h => h) (Or.inl ⟨by rfl, ?_⟩) (by assumption) ?_
    rotate_left 1
    · intro w hSw
      (try dsimp only at hSw)
      go_simp
      (try with_reducible rfl)
    try simp only [List.getElem_toArray, List.getElem_cons_zero, List.getElem_cons_succ, Act.put, List.setIfInBounds_toArray, List.set_cons_zero, List.set_cons_succ]
    refine wpAnyH_take (i := 9) (oi := _) (v := ?_) rfl (by kernel_rfl) (by kernel_rfl) (by kernel_rfl) (fun _ _ _ h => h) (Or.inl ⟨by rfl, ?_⟩) (by assumption) ?_
    rotate_left 1
    · intro w hSw
      (try dsimp only at hSw)
      go_simp
      (try with_reducible rfl)
    try simp only [List.getElem_toArray, List.getElem_cons_zero, List.getElem_cons_succ, Act.put, List.setIfInBounds_toArray, List.set_cons_zero, List.set_cons_succ]
    have hOa : ∀ o, (World.drew (W2.alloc o)).cell? ⟨O, 0, none⟩ = some (.slice A ops.length c) := fun o => (((Below.refl W2.heap.size W2).alloc (Nat.le_refl _) o).drew.cell (p := ⟨O, 0, none⟩) hOl).trans cO
    refine wpAnyH_ready (rs := [0, 10]) (by kernel_rfl) (by simp) ?_
    refine AllReadyH.cons (o := _) rfl (fun K hK => ?_) (AllReadyH.cons (o := _) rfl (fun K hK => ?_) AllReadyH.nil)
    case' refine_1 =>
      go_simp
      refine hK.out _ _ s3 (fun _ => ?_)
      clear hK K
      try simp only [List.getElem_toArray, List.getElem_cons_zero, List.getElem_cons_succ, Act.put, List.setIfInBounds_toArray, List.set_cons_zero, List.set_cons_succ]
      refine wpAnyH_ready (rs := [10]) (by kernel_rfl) (by simp) ?_
      refine AllReadyH.cons (o := _) rfl (fun K hK => ?_) AllReadyH.nil
      go_simp
      refine hK.out _ _ (s4 _) (fun _ => ?_)
      clear hK K
      try simp only [List.getElem_toArray, List.getElem_cons_zero, List.getElem_cons_succ, Act.put, List.setIfInBounds_toArray, List.set_cons_zero, List.set_cons_succ]
    case' refine_2 =>
      go_simp
      refine hK.out _ _ (s4 _) (fun _ => ?_)
      clear hK K
      try simp only [List.getElem_toArray, List.getElem_cons_zero, List.getElem_cons_succ, Act.put, List.setIfInBounds_toArray, List.set_cons_zero, List.set_cons_succ]
      refine wpAnyH_ready (rs := [0]) (by kernel_rfl) (by simp) ?_
      refine AllReadyH.cons (o := _) rfl (fun K hK => ?_) AllReadyH.nil
      have hO2 := hOa (.cells #[.int .i64 0, .int .i64 0, .string ⟨((data.drop from').take (a - from')).toArray⟩] 46)
      go_simp
      refine hK.out _ _ (s4 _) (fun _ => ?_)
      clear hK K hO2
      try simp only [List.getElem_toArray, List.getElem_cons_zero, List.getElem_cons_succ, Act.put, List.setIfInBounds_toArray, List.set_cons_zero, List.set_cons_succ]
    all_goals
      refine wpAnyH_ready (rs := [11]) (by kernel_rfl) (by simp) ?_
      refine AllReadyH.cons (o := _) rfl (fun K hK => ?_) AllReadyH.nil
      rw [if_pos (by rfl)]
      refine wp_append_lies _ _ _ 34 rfl base 46 i0 _ 3 32 Try.underlying34 HI.out hz0 hz1 hz2 rfl (by decide) _ _ _ rfl (HOWN.out _) ⟨W2.heap.size, 0, none⟩ 1 1 (stpV ⟨0, 0, (data.drop from').take (a - from')⟩) rfl rfl (laid_rowE W2 _ _) (stpV_oneCell _) (by decide) (by unfold maxLen; omega) (by omega) (by simp; omega) _ rfl ?_
      intro g5 cap5 w5 hown5 hg5 hl5 hlt5
      have s5 := (HS5.out _ w5 hg5).1
      have s6 := (HS5.out _ w5 hg5).2.1
      have f5 := (HS5.out _ w5 hg5).2.2.1.1
      have o5 := (HS5.out _ w5 hg5).2.2.1.2
      refine hK.out _ _ s5 (fun _ => ?_)
      clear hK K
      try simp only [List.getElem_toArray, List.getElem_cons_zero, List.getElem_cons_succ, Act.put, List.setIfInBounds_toArray, List.set_cons_zero, List.set_cons_succ]
      refine wpAnyH_ready (rs := [12]) (by kernel_rfl) (by simp) ?_
      refine AllReadyH.cons (o := _) rfl (fun K hK => ?_) AllReadyH.nil
      go_simp
      refine hK.out _ _ (s6 _) (fun _ => ?_)
      clear hK K
      refine wpAnyH_done (by kernel_rfl) ?_ _
      refine NoPanic.normal ?_
    all_goals
      have hp := H2.out.put hg5 hown5
      try simp only [List.getElem_toArray, List.getElem_cons_zero, List.getElem_cons_succ, Act.put, List.setIfInBounds_toArray, List.set_cons_zero, List.set_cons_succ]
      go_end0
      exact ⟨rfl, HO2.out.trans hp.2, _, hp.1⟩
end Go.Proofs.Ytgohhhfnffhgmaa
