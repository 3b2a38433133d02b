/- merge.lines. -/
import Derived.Test.YtgbiddjkjdggpaaDoorChanged
import Derived.Test.YtgbiddjkjdggpaaDoorConcat
import Derived.Test.YtgbiddjkjdggpaaDoorAhead
import Derived.StillTailTactics
namespace Go.Proofs.YtgbiddjkjdggpaaDoor
open Go.RowKit Plain

/-- Behind a change: its value, its lines. -/
theorem chg_ok {w w5 : World} {x : Chg} {C : Option Addr} {c : Nat} (h : Reads w 1 C x.l.length (strs x.l)) (hb : Below w.heap.size w w5) : Reads w5 1 C x.l.length (strs x.l) := h.below hb

set_option maxHeartbeats 4000000 in
theorem lines_any (o a b : List UInt8) (m : Int) (w : World) (ho : o.length ≤ 65536) (ha : a.length ≤ 65536) (hb : b.length ≤ 65536) (hm : w.cell? ⟨0, 0, none⟩ = some (.int .i64 m)) :
    Calls Tryd.prog 17 #[.string ⟨o.toArray⟩, .string ⟨a.toArray⟩, .string ⟨b.toArray⟩] w (Ret w (.tuple #[.string ⟨(linesM o a b).1.toArray⟩, .bool (linesM o a b).2])) := by
  have hmlt := World.block_lt_of_cell? _ _ hm
  by_cases h1 : a = b
  · subst h1
    have hl : linesM o a a = (a, true) := by unfold linesM; rw [if_pos (.inl rfl)]
    rw [hl]
    clear hl
    go_enter Tryd.func17, Tryd.ntmps17
    go_wp2_with (fail)
    go_ret2
    exact ⟨rfl, Below.refl _ _⟩
  have hb1 : (a == b) = false := by simpa using h1
  by_cases h2 : b = o
  · subst h2
    have hl : linesM b a b = (a, true) := by unfold linesM; rw [if_pos (.inr rfl)]
    rw [hl]
    clear hl
    go_enter Tryd.func17, Tryd.ntmps17
    go_wp2_with (fail)
    go_ret2
    exact ⟨rfl, Below.refl _ _⟩
  have hb2 : (b == o) = false := by simpa using h2
  by_cases h3 : a = o
  · subst h3
    have hl : linesM a a b = (b, true) := by unfold linesM; rw [if_neg (by simp [h1, h2]), if_pos rfl]
    rw [hl]
    clear hl
    go_enter Tryd.func17, Tryd.ntmps17
    go_wp2_with (fail)
    go_ret2
    exact ⟨rfl, Below.refl _ _⟩
  have hb3 : (a == o) = false := by simpa using h3
  have HN := Lib.hid (And.intro h1 (And.intro h2 h3))
  clear h1 h2 h3
  have hlo := linesL_length o
  have hla := linesL_length a
  have hlb := linesL_length b
  have HM := Lib.hid hm
  clear hm
  go_enter Tryd.func17, Tryd.ntmps17
  go_wp2_with (fail)
  refine (Lines_any o m w (by omega) HM.out).mono ?_
  rintro e w1 ⟨O, co, rfl, hco, hmo, hro, hw1, hO0⟩
  have hm1 := (hw1.cell (p := ⟨0, 0, none⟩) hmlt).trans HM.out
  go_wp2_with (fail)
  refine (Lines_any a m w1 (by omega) hm1).mono ?_
  rintro e w2 ⟨A, ca, rfl, hca, hma, hra, hw2, hA0⟩
  have hro2 := hro.below hw2
  go_wp2_with (fail)
  refine (changed_any O A co ca _ _ w2 hro2 hra (by omega) (by omega) hca hma hA0).mono ?_
  rintro e w3 ⟨C, c1, rfl, hc1, hm1', hrC, hw3, hC0⟩
  have hB3 := (hw1.trans (hw2.mono hw1.size)).trans (hw3.mono (hw1.trans (hw2.mono hw1.size)).size)
  have hm3 := (hB3.cell (p := ⟨0, 0, none⟩) hmlt).trans HM.out
  go_wp2_with (fail)
  refine (Lines_any b m w3 (by omega) hm3).mono ?_
  rintro e w4 ⟨B, cb, rfl, hcb, hmb, hrb, hw4, hB0⟩
  have hro4 := (hro2.below hw3).below hw4
  go_wp2_with (fail)
  refine (changed_any O B co cb _ _ w4 hro4 hrb (by omega) (by omega) hcb hmb hB0).mono ?_
  rintro e w5 ⟨D, c2, rfl, hc2, hm2', hrD, hw5, hD0⟩
  have hB4 := hB3.trans (hw4.mono hB3.size)
  have hB5 := hB4.trans (hw5.mono hB4.size)
  have hro5 := hro4.below hw5
  have hrC5 := (hrC.below hw4).below hw5
  have h5s := hB5.size
  clear hro hro2 hro4 hra hrb hw1 hw2 hw3 hw4 hw5 hB3 hB4 hm1 hm3 hrC hma hca hcb hmb
  generalize hx : chg (linesL o) (linesL a) = x at *
  generalize hy : chg (linesL o) (linesL b) = y at *
  have HCH := Lib.hid (And.intro hx hy)
  clear hx hy
  have hxy : x.f ≤ (linesL o).length ∧ x.t ≤ (linesL o).length ∧ y.f ≤ (linesL o).length ∧ y.t ≤ (linesL o).length ∧ x.l.length ≤ (linesL a).length ∧ y.l.length ≤ (linesL b).length ∧ x.l.flatten.length ≤ a.length ∧ y.l.flatten.length ≤ b.length := by
    obtain ⟨e1, e2⟩ := HCH.out
    have p1 := chg_le (linesL o) (linesL a)
    have p2 := chg_le (linesL o) (linesL b)
    have p3 := chg_flat (linesL o) (linesL a)
    have p4 := chg_flat (linesL o) (linesL b)
    rw [linesL_flat] at p3 p4
    rw [← e1, ← e2]; omega
  obtain ⟨q1, q2, q3, q4, q5, q6, q7, q8⟩ := hxy
  go_wp2_with (fail)
  refine (ahead_any _ _ _ _ _).mono ?_
  rintro e w6 ⟨rfl, hw6⟩
  have hX0 := (hw6.block w5.heap.size (by simp; omega)).trans (heap_old' (heap_alloc_new w5 _))
  have hY0 := (hw6.block (w5.heap.size + 1) (by simp)).trans (heap_new' _ _ _ (by simp))
  have hB6 := ((hB5.alloc h5s _).alloc (by simp; omega) _).trans (hw6.mono (by simp; omega))
  have hro6 := hro5.below (((Below.refl _ _).alloc (Nat.le_refl _) _).alloc (by simp) _ |>.trans (hw6.mono (by simp; omega)))
  have hrC6 := hrC5.below (((Below.refl _ _).alloc (Nat.le_refl _) _).alloc (by simp) _ |>.trans (hw6.mono (by simp; omega)))
  have hrD6 := hrD.below (((Below.refl _ _).alloc (Nat.le_refl _) _).alloc (by simp) _ |>.trans (hw6.mono (by simp; omega)))
  have cx0 : w6.cell? ⟨w5.heap.size, 0, none⟩ = some (.int .i64 x.f) := by rw [cell_of_row _ _ _ _ _ _ hX0]; rfl
  have cx1 : w6.cell? ⟨w5.heap.size, 1, none⟩ = some (.int .i64 x.t) := by rw [cell_of_row _ _ _ _ _ _ hX0]; rfl
  have cx2 : w6.cell? ⟨w5.heap.size, 2, none⟩ = some (.slice C x.l.length c1) := by rw [cell_of_row _ _ _ _ _ _ hX0]; rfl
  have cy0 : w6.cell? ⟨w5.heap.size + 1, 0, none⟩ = some (.int .i64 y.f) := by rw [cell_of_row _ _ _ _ _ _ hY0]; rfl
  have cy1 : w6.cell? ⟨w5.heap.size + 1, 1, none⟩ = some (.int .i64 y.t) := by rw [cell_of_row _ _ _ _ _ _ hY0]; rfl
  have cy2 : w6.cell? ⟨w5.heap.size + 1, 2, none⟩ = some (.slice D y.l.length c2) := by rw [cell_of_row _ _ _ _ _ _ hY0]; rfl
  by_cases hs : y.t < x.f
  · have hd1 : decide (y.t < x.f) = true := by simpa using hs
    have HX0 := Lib.hid hX0
    have HY0 := Lib.hid hY0
    have hsz6 : w5.heap.size + 1 < w6.heap.size := (Array.getElem?_eq_some_iff.1 hY0).1
    clear hX0 hY0
    go_wp2_with (refine wpList_store_row rfl 47 (.tmp 9) (.tmp 41) rfl w5.heap.size #[.int .i64 y.f, .int .i64 y.t, .slice D y.l.length c2] _ 47 rfl rfl HX0.out rfl infoChange (by simp [Value.oneCell']) ?_)
    intro wA hgA hsz1 hbA
    have hYA := (hgA.block (w5.heap.size + 1) hsz6 (by intro e; injection e with e; omega)).trans HY0.out
    have HBA := Lib.hid hbA
    have HYA := Lib.hid hYA
    have HGA := Lib.hid hgA
    clear hgA hbA hYA
    go_wp2_with (refine wpList_store_row rfl 47 (.tmp 10) (.tmp 42) rfl (w5.heap.size + 1) #[.int .i64 x.f, .int .i64 x.t, .slice C x.l.length c1] _ 47 rfl rfl HYA.out rfl infoChange (by simp [Value.oneCell']) ?_)
    intro wS hgS hsz2 hbS
    have hXS := (hgS.block w5.heap.size (by omega) (by intro e; injection e with e; omega)).trans HBA.out
    have dx0 : wS.cell? ⟨w5.heap.size, 0, none⟩ = some (.int .i64 y.f) := by rw [cell_of_row _ _ _ _ _ _ hXS]; rfl
    have dx1 : wS.cell? ⟨w5.heap.size, 1, none⟩ = some (.int .i64 y.t) := by rw [cell_of_row _ _ _ _ _ _ hXS]; rfl
    have dx2 : wS.cell? ⟨w5.heap.size, 2, none⟩ = some (.slice D y.l.length c2) := by rw [cell_of_row _ _ _ _ _ _ hXS]; rfl
    have dy0 : wS.cell? ⟨w5.heap.size + 1, 0, none⟩ = some (.int .i64 x.f) := by rw [cell_of_row _ _ _ _ _ _ hbS]; rfl
    have dy1 : wS.cell? ⟨w5.heap.size + 1, 1, none⟩ = some (.int .i64 x.t) := by rw [cell_of_row _ _ _ _ _ _ hbS]; rfl
    have dy2 : wS.cell? ⟨w5.heap.size + 1, 2, none⟩ = some (.slice C x.l.length c1) := by rw [cell_of_row _ _ _ _ _ _ hbS]; rfl
    have h56 : Below w5.heap.size w5 w6 := ((Below.refl _ _).alloc (Nat.le_refl _) _).alloc (by simp) _ |>.trans (hw6.mono (by simp; omega))
    have h5S := below_gb (below_gb h56 (by omega) HGA.out (Nat.le_refl _)) (by omega) hgS (by omega)
    have hroS := hro5.below h5S
    have hrCS := hrC5.below h5S
    have hrDS := hrD.below h5S
    have hBS := hB5.trans (h5S.mono h5s)
    clear hro6 hrC6 hrD6 hw6 cx0 cx1 cx2 cy0 cy1 cy2 hB6 h56 h5S hgS hbS hXS HX0 HY0 HBA HYA HGA
    go_wp2_with (fail)
    refine (ahead_any _ _ _ _ _).mono ?_
    rintro e w7 ⟨rfl, hw7⟩
    have d0 := (hw7.cell (p := ⟨w5.heap.size, 0, none⟩) (show w5.heap.size < _ by omega)).trans dx0
    have d1 := (hw7.cell (p := ⟨w5.heap.size, 1, none⟩) (show w5.heap.size < _ by omega)).trans dx1
    have d2 := (hw7.cell (p := ⟨w5.heap.size, 2, none⟩) (show w5.heap.size < _ by omega)).trans dx2
    have e0 := (hw7.cell (p := ⟨w5.heap.size + 1, 0, none⟩) (show w5.heap.size + 1 < _ by omega)).trans dy0
    have e1 := (hw7.cell (p := ⟨w5.heap.size + 1, 1, none⟩) (show w5.heap.size + 1 < _ by omega)).trans dy1
    have e2 := (hw7.cell (p := ⟨w5.heap.size + 1, 2, none⟩) (show w5.heap.size + 1 < _ by omega)).trans dy2
    have hro7 := hroS.below hw7
    have hrC7 := hrCS.below hw7
    have hrD7 := hrDS.below hw7
    have hB7 := hBS.trans (hw7.mono hBS.size)
    clear hro5 hrC5 hrD hw7 hB5 h5s hroS hrCS hrDS hBS hsz6 hsz1 hsz2 dx0 dx1 dx2 dy0 dy1 dy2
    by_cases ht : y.t < x.f
    · have hd2 : decide (y.t < x.f) = true := by simpa using ht
      have g1 : (0 : Int) ≤ y.f := by omega
      have g2 : (0 : Int) ≤ y.t := by omega
      have g3 : (0 : Int) ≤ x.f := by omega
      have g4 : (0 : Int) ≤ x.t := by omega
      have g5 : (y.f : Int) ≤ co := by omega
      have g6 : (y.t : Int) ≤ x.f := by omega
      have g7 : (x.f : Int) ≤ co := by omega
      have g8 : (x.t : Int) ≤ (linesL o).length := by omega
      have g9 : ¬ co = y.t := by omega
      have q_m : min (x.f - y.t) ((linesL o).length - y.t) = x.f - y.t := by omega
      have hfl : ((linesL o).take y.f ++ y.l ++ ((linesL o).drop y.t).take (x.f - y.t) ++ x.l ++ (linesL o).drop x.t).flatten.length ≤ 140737488355328 := by
        have r1 := flat_take_le (linesL o) y.f
        have r2 := Nat.le_trans (flat_take_le ((linesL o).drop y.t) (x.f - y.t)) (flat_drop_le _ _)
        have r3 := flat_drop_le (linesL o) x.t
        rw [linesL_flat] at r1 r2 r3
        simp only [List.flatten_append, List.length_append]
        omega
      have HFL := Lib.hid hfl
      clear hfl
      have q_xf : y.f ≤ (linesL o).length := by omega
      have hfin : linesM o a b = (((linesL o).take y.f ++ y.l ++ ((linesL o).drop y.t).take (x.f - y.t) ++ x.l ++ (linesL o).drop x.t).flatten, true) := by
        obtain ⟨e1, e2⟩ := HCH.out
        unfold linesM
        rw [if_neg (by have := HN.out; simp [this.1, this.2.1]), if_neg HN.out.2.2]
        simp only [e1, e2]
        rw [if_pos hs]
        unfold joinC
        rw [if_pos ht]
      have HFIN := Lib.hid hfin
      clear hfin
      clear q7 q8
      by_cases hck : co = x.t
      · obtain rfl := hck
        have hcc := concat5 w7 ⟨O, x.t, (linesL o).take y.f⟩ ⟨D, c2, y.l⟩ ⟨O.map (·.add y.t), x.t - y.t, ((linesL o).drop y.t).take (x.f - y.t)⟩ ⟨C, c1, x.l⟩ ⟨O, 0, []⟩ y.f y.l.length (x.f - y.t) x.l.length 0
          (by simp; omega) rfl (by simp; omega) rfl (by simp)
          ⟨by have h := hro7.take (k := y.f) (by omega); rw [Nat.mul_one, strs_take] at h; simpa [Nat.min_eq_left q_xf] using h, fun e => ⟨hO0 e, by have h0 : (linesL o).length = 0 := (by have := hO0 e; omega); simp [List.length_eq_zero_iff.1 h0]⟩⟩
          ⟨hrD7, fun e => ⟨hD0 e, List.length_eq_zero_iff.1 (by have := hD0 e; show y.l.length = 0; omega)⟩⟩
          ⟨(by have h := (hro7.cut (k := y.t) (by omega) (O.map (·.add y.t)) (fun h => by rw [Nat.mul_one])).take (k := x.f - y.t) (by omega); rw [Nat.mul_one, Nat.mul_one, strs_drop, strs_take] at h; simpa [q_m] using h), fun e => by exfalso; simp at e; have := hO0 e; omega⟩
          ⟨hrC7, fun e => ⟨hC0 e, List.length_eq_zero_iff.1 (by have := hC0 e; show x.l.length = 0; omega)⟩⟩
          ⟨Reads.nil _ _ _, fun _ => ⟨rfl, rfl⟩⟩ (by omega)
        have HCC := Lib.hid hcc
        clear hcc
        go_wp2_with (fail)
        go_still_tail 22, (by kernel_rfl)
        go_wp2_with (fail)
        refine HCC.out.mono ?_
        rintro e w8 ⟨v8, rfl, hown, hw8⟩
        go_wp2_with (fail)
        refine (join_own hown (by simp; omega) ?hfl).mono ?_
        case hfl => have h := HFL.out; rw [List.drop_eq_nil_of_le (show (linesL o).length ≤ x.t by omega)] at h; exact h
        rintro e w9 ⟨rfl, hw9⟩
        go_wp2_with (fail)
        go_ret2
        refine ⟨?_, (hB7.trans (((Below.refl _ _).alloc (Nat.le_refl _) _).drew.mono hB7.size)).trans ((hw8.mono (by simp; have := hB7.size; omega)).trans (hw9.mono (by have := hB7.size; have := hw8.size; simp at this; omega)))⟩
        rw [HFIN.out, List.drop_eq_nil_of_le (show (linesL o).length ≤ x.t by omega)]; simp only [List.flatten_append, List.append_assoc, List.flatten_nil, List.append_nil]; rfl
      · skip
        have hcc := concat5 w7 ⟨O, co, (linesL o).take y.f⟩ ⟨D, c2, y.l⟩ ⟨O.map (·.add y.t), co - y.t, ((linesL o).drop y.t).take (x.f - y.t)⟩ ⟨C, c1, x.l⟩ ⟨O.map (·.add x.t), co - x.t, (linesL o).drop x.t⟩ y.f y.l.length (x.f - y.t) x.l.length ((linesL o).length - x.t)
          (by simp; omega) rfl (by simp; omega) rfl (by simp)
          ⟨by have h := hro7.take (k := y.f) (by omega); rw [Nat.mul_one, strs_take] at h; simpa [Nat.min_eq_left q_xf] using h, fun e => ⟨hO0 e, by have h0 : (linesL o).length = 0 := (by have := hO0 e; omega); simp [List.length_eq_zero_iff.1 h0]⟩⟩
          ⟨hrD7, fun e => ⟨hD0 e, List.length_eq_zero_iff.1 (by have := hD0 e; show y.l.length = 0; omega)⟩⟩
          ⟨(by have h := (hro7.cut (k := y.t) (by omega) (O.map (·.add y.t)) (fun h => by rw [Nat.mul_one])).take (k := x.f - y.t) (by omega); rw [Nat.mul_one, Nat.mul_one, strs_drop, strs_take] at h; simpa [q_m] using h), fun e => by exfalso; simp at e; have := hO0 e; omega⟩
          ⟨hrC7, fun e => ⟨hC0 e, List.length_eq_zero_iff.1 (by have := hC0 e; show x.l.length = 0; omega)⟩⟩
          ⟨(by have h := hro7.cut (k := x.t) (by omega) (O.map (·.add x.t)) (fun h => by rw [Nat.mul_one]); rw [Nat.mul_one, strs_drop] at h; simpa using h), fun e => by exfalso; simp at e; have := hO0 e; omega⟩ (by omega)
        have HCC := Lib.hid hcc
        clear hcc
        go_wp2_with (fail)
        go_still_tail 22, (by kernel_rfl)
        go_wp2_with (fail)
        refine HCC.out.mono ?_
        rintro e w8 ⟨v8, rfl, hown, hw8⟩
        go_wp2_with (fail)
        refine (join_own hown (by simp; omega) ?hfl).mono ?_
        case hfl => exact HFL.out
        rintro e w9 ⟨rfl, hw9⟩
        go_wp2_with (fail)
        go_ret2
        refine ⟨?_, (hB7.trans (((Below.refl _ _).alloc (Nat.le_refl _) _).drew.mono hB7.size)).trans ((hw8.mono (by simp; have := hB7.size; omega)).trans (hw9.mono (by have := hB7.size; have := hw8.size; simp at this; omega)))⟩
        rw [HFIN.out]; simp only [List.flatten_append, List.append_assoc, List.flatten_nil, List.append_nil]; rfl
    · exact absurd hs ht
  · have hd1 : decide (y.t < x.f) = false := by simpa using hs
    clear hX0 hY0
    go_wp2_with (fail)
    refine (ahead_any _ _ _ _ _).mono ?_
    rintro e w7 ⟨rfl, hw7⟩
    have hs6 : w5.heap.size + 1 < w6.heap.size := World.block_lt_of_cell? _ _ cy0
    have d0 := (hw7.cell (p := ⟨w5.heap.size, 0, none⟩) (show w5.heap.size < _ by omega)).trans cx0
    have d1 := (hw7.cell (p := ⟨w5.heap.size, 1, none⟩) (show w5.heap.size < _ by omega)).trans cx1
    have d2 := (hw7.cell (p := ⟨w5.heap.size, 2, none⟩) (show w5.heap.size < _ by omega)).trans cx2
    have e0 := (hw7.cell (p := ⟨w5.heap.size + 1, 0, none⟩) hs6).trans cy0
    have e1 := (hw7.cell (p := ⟨w5.heap.size + 1, 1, none⟩) hs6).trans cy1
    have e2 := (hw7.cell (p := ⟨w5.heap.size + 1, 2, none⟩) hs6).trans cy2
    have hro7 := hro6.below hw7
    have hrC7 := hrC6.below hw7
    have hrD7 := hrD6.below hw7
    have hB7 := hB6.trans (hw7.mono hB6.size)
    clear hro5 hro6 hrC5 hrC6 hrD hrD6 hw6 hw7 cx0 cx1 cx2 cy0 cy1 cy2 hs6 hB6 hB5 h5s
    by_cases ht : x.t < y.f
    · have hd2 : decide (x.t < y.f) = true := by simpa using ht
      have g1 : (0 : Int) ≤ x.f := by omega
      have g2 : (0 : Int) ≤ x.t := by omega
      have g3 : (0 : Int) ≤ y.f := by omega
      have g4 : (0 : Int) ≤ y.t := by omega
      have g5 : (x.f : Int) ≤ co := by omega
      have g6 : (x.t : Int) ≤ y.f := by omega
      have g7 : (y.f : Int) ≤ co := by omega
      have g8 : (y.t : Int) ≤ (linesL o).length := by omega
      have g9 : ¬ co = x.t := by omega
      have q_m : min (y.f - x.t) ((linesL o).length - x.t) = y.f - x.t := by omega
      have hfl : ((linesL o).take x.f ++ x.l ++ ((linesL o).drop x.t).take (y.f - x.t) ++ y.l ++ (linesL o).drop y.t).flatten.length ≤ 140737488355328 := by
        have r1 := flat_take_le (linesL o) x.f
        have r2 := Nat.le_trans (flat_take_le ((linesL o).drop x.t) (y.f - x.t)) (flat_drop_le _ _)
        have r3 := flat_drop_le (linesL o) y.t
        rw [linesL_flat] at r1 r2 r3
        simp only [List.flatten_append, List.length_append]
        omega
      have HFL := Lib.hid hfl
      clear hfl
      have q_xf : x.f ≤ (linesL o).length := by omega
      have hfin : linesM o a b = (((linesL o).take x.f ++ x.l ++ ((linesL o).drop x.t).take (y.f - x.t) ++ y.l ++ (linesL o).drop y.t).flatten, true) := by
        obtain ⟨e1, e2⟩ := HCH.out
        unfold linesM
        rw [if_neg (by have := HN.out; simp [this.1, this.2.1]), if_neg HN.out.2.2]
        simp only [e1, e2]
        rw [if_neg hs]
        unfold joinC
        rw [if_pos ht]
      have HFIN := Lib.hid hfin
      clear hfin
      clear q7 q8
      by_cases hck : co = y.t
      · obtain rfl := hck
        have hcc := concat5 w7 ⟨O, y.t, (linesL o).take x.f⟩ ⟨C, c1, x.l⟩ ⟨O.map (·.add x.t), y.t - x.t, ((linesL o).drop x.t).take (y.f - x.t)⟩ ⟨D, c2, y.l⟩ ⟨O, 0, []⟩ x.f x.l.length (y.f - x.t) y.l.length 0
          (by simp; omega) rfl (by simp; omega) rfl (by simp)
          ⟨by have h := hro7.take (k := x.f) (by omega); rw [Nat.mul_one, strs_take] at h; simpa [Nat.min_eq_left q_xf] using h, fun e => ⟨hO0 e, by have h0 : (linesL o).length = 0 := (by have := hO0 e; omega); simp [List.length_eq_zero_iff.1 h0]⟩⟩
          ⟨hrC7, fun e => ⟨hC0 e, List.length_eq_zero_iff.1 (by have := hC0 e; show x.l.length = 0; omega)⟩⟩
          ⟨(by have h := (hro7.cut (k := x.t) (by omega) (O.map (·.add x.t)) (fun h => by rw [Nat.mul_one])).take (k := y.f - x.t) (by omega); rw [Nat.mul_one, Nat.mul_one, strs_drop, strs_take] at h; simpa [q_m] using h), fun e => by exfalso; simp at e; have := hO0 e; omega⟩
          ⟨hrD7, fun e => ⟨hD0 e, List.length_eq_zero_iff.1 (by have := hD0 e; show y.l.length = 0; omega)⟩⟩
          ⟨Reads.nil _ _ _, fun _ => ⟨rfl, rfl⟩⟩ (by omega)
        have HCC := Lib.hid hcc
        clear hcc
        go_wp2_with (fail)
        go_still_tail 22, (by kernel_rfl)
        go_wp2_with (fail)
        refine HCC.out.mono ?_
        rintro e w8 ⟨v8, rfl, hown, hw8⟩
        go_wp2_with (fail)
        refine (join_own hown (by simp; omega) ?hfl).mono ?_
        case hfl => have h := HFL.out; rw [List.drop_eq_nil_of_le (show (linesL o).length ≤ y.t by omega)] at h; exact h
        rintro e w9 ⟨rfl, hw9⟩
        go_wp2_with (fail)
        go_ret2
        refine ⟨?_, (hB7.trans (((Below.refl _ _).alloc (Nat.le_refl _) _).drew.mono hB7.size)).trans ((hw8.mono (by simp; have := hB7.size; omega)).trans (hw9.mono (by have := hB7.size; have := hw8.size; simp at this; omega)))⟩
        rw [HFIN.out, List.drop_eq_nil_of_le (show (linesL o).length ≤ y.t by omega)]; simp only [List.flatten_append, List.append_assoc, List.flatten_nil, List.append_nil]; rfl
      · skip
        have hcc := concat5 w7 ⟨O, co, (linesL o).take x.f⟩ ⟨C, c1, x.l⟩ ⟨O.map (·.add x.t), co - x.t, ((linesL o).drop x.t).take (y.f - x.t)⟩ ⟨D, c2, y.l⟩ ⟨O.map (·.add y.t), co - y.t, (linesL o).drop y.t⟩ x.f x.l.length (y.f - x.t) y.l.length ((linesL o).length - y.t)
          (by simp; omega) rfl (by simp; omega) rfl (by simp)
          ⟨by have h := hro7.take (k := x.f) (by omega); rw [Nat.mul_one, strs_take] at h; simpa [Nat.min_eq_left q_xf] using h, fun e => ⟨hO0 e, by have h0 : (linesL o).length = 0 := (by have := hO0 e; omega); simp [List.length_eq_zero_iff.1 h0]⟩⟩
          ⟨hrC7, fun e => ⟨hC0 e, List.length_eq_zero_iff.1 (by have := hC0 e; show x.l.length = 0; omega)⟩⟩
          ⟨(by have h := (hro7.cut (k := x.t) (by omega) (O.map (·.add x.t)) (fun h => by rw [Nat.mul_one])).take (k := y.f - x.t) (by omega); rw [Nat.mul_one, Nat.mul_one, strs_drop, strs_take] at h; simpa [q_m] using h), fun e => by exfalso; simp at e; have := hO0 e; omega⟩
          ⟨hrD7, fun e => ⟨hD0 e, List.length_eq_zero_iff.1 (by have := hD0 e; show y.l.length = 0; omega)⟩⟩
          ⟨(by have h := hro7.cut (k := y.t) (by omega) (O.map (·.add y.t)) (fun h => by rw [Nat.mul_one]); rw [Nat.mul_one, strs_drop] at h; simpa using h), fun e => by exfalso; simp at e; have := hO0 e; omega⟩ (by omega)
        have HCC := Lib.hid hcc
        clear hcc
        go_wp2_with (fail)
        go_still_tail 22, (by kernel_rfl)
        go_wp2_with (fail)
        refine HCC.out.mono ?_
        rintro e w8 ⟨v8, rfl, hown, hw8⟩
        go_wp2_with (fail)
        refine (join_own hown (by simp; omega) ?hfl).mono ?_
        case hfl => exact HFL.out
        rintro e w9 ⟨rfl, hw9⟩
        go_wp2_with (fail)
        go_ret2
        refine ⟨?_, (hB7.trans (((Below.refl _ _).alloc (Nat.le_refl _) _).drew.mono hB7.size)).trans ((hw8.mono (by simp; have := hB7.size; omega)).trans (hw9.mono (by have := hB7.size; have := hw8.size; simp at this; omega)))⟩
        rw [HFIN.out]; simp only [List.flatten_append, List.append_assoc, List.flatten_nil, List.append_nil]; rfl
    · have hd2 : decide (x.t < y.f) = false := by simpa using ht
      have hfin : linesM o a b = ([], false) := by
        obtain ⟨e1, e2⟩ := HCH.out
        unfold linesM
        rw [if_neg (by have := HN.out; simp [this.1, this.2.1]), if_neg HN.out.2.2]
        simp only [e1, e2]
        rw [if_neg hs]
        unfold joinC
        rw [if_neg ht]
      have HFIN := Lib.hid hfin
      clear hfin
      go_wp2_with (fail)
      go_ret2
      refine ⟨?_, hB7⟩
      rw [HFIN.out]; rfl
end Go.Proofs.YtgbiddjkjdggpaaDoor
