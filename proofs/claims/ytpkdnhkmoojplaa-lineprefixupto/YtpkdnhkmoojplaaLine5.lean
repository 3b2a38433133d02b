/- The program's reader: one frame. -/
import Derived.Test.YtpkdnhkmoojplaaLine4
import Derived.Deep.RegionWith
namespace Go.Proofs.Ytpkdnhkmoojplaa
open Go.RowKit Plain

set_option maxHeartbeats 400000 in
theorem restFour (b : Nat) (s : List UInt8) (w : World) (hc : w.cell? ⟨b, 0, none⟩ = some (.string ⟨s.toArray⟩)) (hf : w.frozen? ⟨b, 0, none⟩ = false) (h : 4 ≤ s.length) :
    Calls Try.prog 24 #[.pointer (some ⟨b, 0, none⟩)] w fun e w' => e = .returned (.int .u32 (num s : Nat)) ∧ ∃ n, w' = (w.setCell ⟨b, 0, none⟩ (.string ⟨(s.drop 4).toArray⟩)).drewN n := by
  obtain ⟨x0, x1, x2, x3, r, rfl⟩ := four_cases h
  have h0 : 0 < (x0 :: x1 :: x2 :: x3 :: r).length := by omega
  have h1 : (1 : Int) < (x0 :: x1 :: x2 :: x3 :: r).length := by omega
  have h2 : (2 : Int) < (x0 :: x1 :: x2 :: x3 :: r).length := by omega
  have h3 : (3 : Int) < (x0 :: x1 :: x2 :: x3 :: r).length := by omega
  have h4 : (4 : Int) ≤ (x0 :: x1 :: x2 :: x3 :: r).length := by omega
  have ha : (x0.toNat : Int) < 256 := by have := x0.toNat_lt; omega
  have hb : (x1.toNat : Int) < 256 := by have := x1.toNat_lt; omega
  have hc' : (x2.toNat : Int) < 256 := by have := x2.toNat_lt; omega
  have hd : (x3.toNat : Int) < 256 := by have := x3.toNat_lt; omega
  have E := num_go x0.toNat x1.toNat x2.toNat x3.toNat (by omega) (by omega) (by omega) (by omega)
  go_enter Try.func24, Try.ntmps24
  go_wp2_with (fail)
  go_quiet (fail)
  go_wp2_with (fail)
  go_ret
  refine ⟨?_, nq, rfl⟩
  simp only [Array.getD_eq_getD_getElem?, List.getElem?_toArray, List.getElem?_cons_succ, List.getElem?_cons_zero, Option.getD_some]
  exact ret_int (by simp [num])


/-- What a frame's reading answers, and what it leaves of the reader at block b. -/
def FrameR (w : World) (b k : Nat) (s : List UInt8) (e : Ending) (w' : World) : Prop :=
  match takeFrame k s with
  | none => e = .returned (.tuple #[.string ⟨#[]⟩, .bool false]) ∧ w.grownBy w' (some b)
  | some (p, r) => e = .returned (.tuple #[.string ⟨p.toArray⟩, .bool true]) ∧ w.grownBy w' (some b) ∧ w'.heap[b]? = some (.cells #[.string ⟨r.toArray⟩, .int .i64 (k + 1 : Nat)] 55 (0, 0))
theorem FrameR.no {w w' : World} {b k : Nat} {s : List UInt8} {e : Ending} (h : takeFrame k s = none) (he : e = .returned (.tuple #[.string ⟨#[]⟩, .bool false])) (hg : w.grownBy w' (some b)) : FrameR w b k s e w' := by
  unfold FrameR; rw [h]; exact ⟨he, hg⟩
theorem FrameR.yes {w w' : World} {b k : Nat} {s p r : List UInt8} {e : Ending} (h : takeFrame k s = some (p, r)) (he : e = .returned (.tuple #[.string ⟨p.toArray⟩, .bool true])) (hg : w.grownBy w' (some b))
    (hb : w'.heap[b]? = some (.cells #[.string ⟨r.toArray⟩, .int .i64 (k + 1 : Nat)] 55 (0, 0))) : FrameR w b k s e w' := by
  unfold FrameR; rw [h]; exact ⟨he, hg, hb⟩

theorem frame_short (b k : Nat) (s : List UInt8) (w : World) (hb : w.heap[b]? = some (.cells #[.string ⟨s.toArray⟩, .int .i64 k] 55 (0, 0))) (h : s.length < 12) :
    Calls Try.prog 18 #[.pointer (some ⟨b, 0, none⟩)] w (FrameR w b k s) := by
  have c0 : w.cell? ⟨b, 0, none⟩ = some (.string ⟨s.toArray⟩) := cell_of_row w b 0 _ _ _ hb
  go_enter Try.func18, Try.ntmps18
  go_wp2_with (fail)
  go_ret2
  exact .no (tf_short h) rfl (gb_refl _ _)

set_option maxHeartbeats 2000000 in
theorem frame_long (b k : Nat) (s : List UInt8) (w : World) (hb : w.heap[b]? = some (.cells #[.string ⟨s.toArray⟩, .int .i64 k] 55 (0, 0))) (hk : k < 4294967295) (hs : s.length ≤ 140737488355328) (h : 12 ≤ s.length) :
    Calls Try.prog 18 #[.pointer (some ⟨b, 0, none⟩)] w (FrameR w b k s) := by
  have c0 : w.cell? ⟨b, 0, none⟩ = some (.string ⟨s.toArray⟩) := cell_of_row w b 0 _ _ _ hb
  have c1 : w.cell? ⟨b, 1, none⟩ = some (.int .i64 k) := cell_of_row w b 1 _ _ _ hb
  have f0 : w.frozen? ⟨b, 0, none⟩ = false := by simp [World.frozen?, hb]
  have f1 : w.frozen? ⟨b, 1, none⟩ = false := by simp [World.frozen?, hb]
  have hlt := World.block_lt_of_cell? _ _ c0
  simp only at hlt
  go_enter Try.func18, Try.ntmps18
  go_wp2_with (fail)
  have l4 : (s.drop 4).length = s.length - 4 := by simp
  have l8 : (s.drop 8).length = s.length - 8 := by simp
  have l12 : (s.drop 12).length = s.length - 12 := by simp
  have dd : (s.drop 4).drop 4 = s.drop 8 := by rw [List.drop_drop]
  have ddd : (s.drop 8).drop 4 = s.drop 12 := by rw [List.drop_drop]
  go_region_with (first | (go_at_call 24; (refine (restFour b s _ ?_ ?_ ?_).mono ?_; all_goals first | (go_simp; done) | omega | skip); rintro e w1 ⟨rfl, n1, rfl⟩) | (go_at_call 24; (refine (restFour b (s.drop 4) _ ?_ ?_ ?_).mono ?_; all_goals first | (go_simp; done) | omega | skip); rintro e w2 ⟨rfl, n2, rfl⟩) | (go_at_call 24; (refine (restFour b (s.drop 8) _ ?_ ?_ ?_).mono ?_; all_goals first | (go_simp; done) | omega | skip); rintro e w3 ⟨rfl, n3, rfl⟩))
  go_wp2_with (fail)
  generalize hWW : World.drewN _ n3 = W
  have hW0 : W.heap[b]? = some (.cells #[.string ⟨(s.drop 12).toArray⟩, .int .i64 k] 55 (0, 0)) := by
    rw [← hWW]
    exact heap_set (heap_set ((Below.heap_alloc _ _ b (by simpa [World.setCell] using hlt)).trans (heap_set hb 0 _)) 0 _) 0 _
  have hgb : w.grownBy W (some b) := by
    rw [← hWW]
    exact gb_drewN (gb_set (gb_drewN (gb_set (gb_drewN (gb_alloc (gb_set (gb_refl w _) (.inl rfl) _) _) _) (.inl rfl) _) _) (.inl rfl) _) _
  have hWs : w.heap.size < W.heap.size := by rw [← hWW]; simp [World.setCell]
  have hWn : W.heap[w.heap.size]? = some (.cells #[.string ⟨s.toArray⟩, .int .i64 k] 55 (0, 0)) := by
    rw [← hWW]
    refine (Below.heap_setCell _ _ _ _ (by simp; omega)).trans ?_
    refine (Below.heap_setCell _ _ _ _ (by simp; omega)).trans ?_
    have hn := heap_alloc_new (w.setCell ⟨b, 0, none⟩ (.string ⟨(s.drop 4).toArray⟩)) (.cells #[.string ⟨s.toArray⟩, .int .i64 k] 55)
    rw [show (w.setCell ⟨b, 0, none⟩ (.string ⟨(s.drop 4).toArray⟩)).heap.size = w.heap.size by simp [World.setCell]] at hn
    exact hn
  have hWh : W.cell? ⟨w.heap.size, 0, none⟩ = some (.string ⟨s.toArray⟩) := cell_of_row W _ 0 _ _ _ hWn
  clear hWW l4 l8 dd ddd c0 c1 f0 f1
  have hbW : b < W.heap.size := by omega
  have c0 : W.cell? ⟨b, 0, none⟩ = some (.string ⟨(s.drop 12).toArray⟩) := cell_of_row W b 0 _ _ _ hW0
  have c1 : W.cell? ⟨b, 1, none⟩ = some (.int .i64 k) := cell_of_row W b 1 _ _ _ hW0
  refine (Crc_any (s.take 4) W (by simp; omega)).mono ?_
  rintro e W4 ⟨rfl, hb4⟩
  have d0 := (hb4.cell (p := ⟨b, 0, none⟩) hbW).trans c0
  have d1 := (hb4.cell (p := ⟨b, 1, none⟩) hbW).trans c1
  have dh := (hb4.cell (p := ⟨w.heap.size, 0, none⟩) hWs).trans hWh
  have hgb4 := gb_below hgb hb4
  have hW4 := (hb4.block b hbW).trans hW0

  have f0 : W4.frozen? ⟨b, 0, none⟩ = false := by simp [World.frozen?, hW4]
  have f1 : W4.frozen? ⟨b, 1, none⟩ = false := by simp [World.frozen?, hW4]
  have hlt4 : b < W4.heap.size := by have := hb4.size; omega
  have HW4 := Lib.hid hW4
  clear hWn hWh hW0 hW4 hgb c0 c1 hb
  by_cases h1 : crc (s.take 4) = num (s.drop 4)
  rotate_left
  · have hB1 : ((crc (s.take 4) : Int) != (num (s.drop 4) : Int)) = true := by simpa using (by omega : (crc (s.take 4) : Int) ≠ (num (s.drop 4) : Int))
    have H1 := Lib.hid h1
    clear h1
    go_wp2_with (fail)
    go_ret2
    exact .no (tf_size h H1.out) rfl hgb4
  have hB1 : ((crc (s.take 4) : Int) != (num (s.drop 4) : Int)) = false := by rw [h1]; simp
  have H1 := Lib.hid h1
  clear h1
  by_cases h2 : 1048576 < num s
  · go_wp2_with (fail)
    go_ret2
    exact .no (tf_big h H1.out h2) rfl hgb4
  by_cases h3 : s.length < 12 + num s
  · have hl3 : ((s.drop 12).length : Int) < num s := by omega
    go_wp2_with (fail)
    go_ret2
    exact .no (tf_cut h H1.out (by omega) h3) rfl hgb4
  have hn2 : (num s : Int) ≤ 1048576 := by omega
  have hl3 : (num s : Int) ≤ ((s.drop 12).length : Int) := by omega
  have hle : (four k).length = 4 := rfl
  go_wp2_with (fail)
  have hpl : ((s.drop 12).take (num s)).length = num s := by rw [List.length_take]; omega
  refine (four_any k W4 (by omega)).mono ?_
  rintro e W5 ⟨rfl, hb5⟩
  have e0 := (hb5.cell (p := ⟨b, 0, none⟩) hlt4).trans d0
  have e1 := (hb5.cell (p := ⟨b, 1, none⟩) hlt4).trans d1
  have g0 := (hb5.frozen (p := ⟨b, 0, none⟩) hlt4).trans f0
  have g1 := (hb5.frozen (p := ⟨b, 1, none⟩) hlt4).trans f1
  have hgb5 := gb_below hgb4 hb5
  have HW5 := Lib.hid ((hb5.block b hlt4).trans HW4.out)
  have hlt5 : b < W5.heap.size := by have := hb5.size; omega
  clear d0 d1 dh f0 f1
  go_wp2_with (fail)
  refine (Crc_any (four k ++ (s.drop 12).take (num s)) W5 (by rw [List.length_append]; omega)).mono ?_
  rintro e W6 ⟨rfl, hb6⟩
  have d0 := (hb6.cell (p := ⟨b, 0, none⟩) hlt5).trans e0
  have d1 := (hb6.cell (p := ⟨b, 1, none⟩) hlt5).trans e1
  have f0 := (hb6.frozen (p := ⟨b, 0, none⟩) hlt5).trans g0
  have f1 := (hb6.frozen (p := ⟨b, 1, none⟩) hlt5).trans g1
  have hgb6 := gb_below hgb5 hb6
  have HW6 := Lib.hid ((hb6.block b hlt5).trans HW5.out)
  clear e0 e1 g0 g1
  by_cases h4 : crc (four k ++ (s.drop 12).take (num s)) = num (s.drop 8)
  rotate_left
  · have hB1 : ((crc (four k ++ (s.drop 12).take (num s)) : Int) != (num (s.drop 8) : Int)) = true := by simpa using (by omega : (crc (four k ++ (s.drop 12).take (num s)) : Int) ≠ (num (s.drop 8) : Int))
    have H4 := Lib.hid h4
    clear h4
    go_wp2_with (fail)
    go_ret2
    exact .no (tf_sum h H1.out (by omega) (by omega) H4.out) rfl hgb6
  have hB2 : ((crc (four k ++ (s.drop 12).take (num s)) : Int) != (num (s.drop 8) : Int)) = false := by rw [h4]; simp
  have H4 := Lib.hid h4
  clear h4
  have hk1 : (k : Int) + 1 < 4294967296 := by omega
  go_wp2_with (fail)
  go_ret2
  refine .yes (tf_ok h H1.out (by omega) (by omega) H4.out) rfl (gb_set (gb_set hgb6 (.inl rfl) _) (.inl rfl) _) ?_
  rw [show s.drop (12 + num s) = (s.drop 12).drop (num s) by rw [List.drop_drop]]
  rw [List.take_of_length_le (l := (s.drop 12).drop (num s)) (by simp; omega), show ((k + 1 : Nat) : Int) = (k : Int) + 1 by omega]
  exact heap_set (heap_set HW6.out 0 _) 1 _

theorem frame_any (b k : Nat) (s : List UInt8) (w : World) (hb : w.heap[b]? = some (.cells #[.string ⟨s.toArray⟩, .int .i64 k] 55 (0, 0))) (hk : k < 4294967295) (hs : s.length ≤ 140737488355328) :
    Calls Try.prog 18 #[.pointer (some ⟨b, 0, none⟩)] w (FrameR w b k s) := by
  rcases Nat.lt_or_ge s.length 12 with h | h
  · exact frame_short b k s w hb h
  · exact frame_long b k s w hb hk hs h

end Go.Proofs.Ytpkdnhkmoojplaa
