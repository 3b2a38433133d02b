/- delta's window: text, sum, on. -/
import Derived.Test.YtgohhhfnffhgmaaHashWeak
import Derived.Test.YtgohhhfnffhgmaaRowsE
import Derived.Test.YtgohhhfnffhgmaaPlainDelta
import Derived.Test.YtgohhhfnffhgmaaQuietTail
import Derived.Test.YtgohhhfnffhgmaaLoads
import Derived.Deep.QuietTactic
namespace Go.Proofs.Ytgohhhfnffhgmaa
open Go.RowKit Plain

/-- the cells of a maker -/
def mkV (data : List UInt8) (at' n wk : Nat) (sm : Bool) (mv lv : Value) : Array Value := #[.string ⟨data.toArray⟩, .int .i64 (at' : Nat), .int .i64 (n : Nat), .int .u32 (wk : Nat), .bool sm, mv, lv]
def piece (data : List UInt8) (at' n : Nat) : List UInt8 := (data.drop at').take n
/-- a maker at block g, its window's sum, if told, that of the window's text -/
def MkAt (g : Nat) (data : List UInt8) (at' n : Nat) (mv lv : Value) (w : World) : Prop := ∃ wk sm, w.heap[g]? = some (.cells (mkV data at' n wk sm mv lv) 62 (0, 0)) ∧ wk < 4294967296 ∧ (sm = true → wk = weak (piece data at' n))
theorem MkAt.same {g : Nat} {data : List UInt8} {at' n : Nat} {mv lv : Value} {w w' : World} (h : MkAt g data at' n mv lv w) (hb : w'.heap[g]? = w.heap[g]?) : MkAt g data at' n mv lv w' := by
  obtain ⟨wk, sm, h1, h2⟩ := h
  exact ⟨wk, sm, hb.trans h1, h2⟩
theorem MkAt.lt {g : Nat} {data : List UInt8} {at' n : Nat} {mv lv : Value} {w : World} (h : MkAt g data at' n mv lv w) : g < w.heap.size := by
  obtain ⟨wk, sm, h1, h2⟩ := h
  exact (Array.getElem?_eq_some_iff.1 h1).1

theorem piece_length {data : List UInt8} {at' n : Nat} (h : at' + n ≤ data.length) : (piece data at' n).length = n := by unfold piece; simp; omega

set_option maxHeartbeats 400000 in
theorem wtext_any (g : Nat) (data : List UInt8) (at' n : Nat) (w : World) (c0 : w.cell? ⟨g, 0, none⟩ = some (.string ⟨data.toArray⟩)) (c1 : w.cell? ⟨g, 1, none⟩ = some (.int .i64 (at' : Nat))) (c2 : w.cell? ⟨g, 2, none⟩ = some (.int .i64 (n : Nat)))
    (hle : at' + n ≤ data.length) (hd : data.length ≤ 4294967296) :
    Calls Try.prog 34 #[.pointer (some ⟨g, 0, none⟩)] w (Ret w (.string ⟨(piece data at' n).toArray⟩)) := by
  have e1 : piece data at' n = (data.drop at').take (at' + n - at') := by unfold piece; congr 1; omega
  rw [e1]
  clear e1
  go_enter Try.func34, Try.ntmps34
  go_wp2_with (fail)
  go_quiet (fail)
  go_wp2_with (fail)
  go_ret
  exact ⟨rfl, below_drewN (Below.refl _ _) _⟩

set_option maxHeartbeats 400000 in
theorem wsum_any (g : Nat) (data : List UInt8) (at' n : Nat) (mv lv : Value) (w : World) (h : MkAt g data at' n mv lv w) (hle : at' + n ≤ data.length) (hd : data.length ≤ 4294967296) :
    Calls Try.prog 33 #[.pointer (some ⟨g, 0, none⟩)] w fun e w' => e = .returned (.int .u32 (weak (piece data at' n) : Nat)) ∧ w.grownBy w' (some g) ∧ MkAt g data at' n mv lv w' := by
  have hg := h.lt
  obtain ⟨wk, sm, h1, h2, h3⟩ := h
  have c0 := cell_of_row w g 0 _ _ _ h1
  have c1 := cell_of_row w g 1 _ _ _ h1
  have c2 := cell_of_row w g 2 _ _ _ h1
  have c3 := cell_of_row w g 3 _ _ _ h1
  have c4 := cell_of_row w g 4 _ _ _ h1
  have HH := Lib.hid h1
  clear h1
  simp only [mkV, List.getElem?_toArray, List.getElem?_cons_zero, List.getElem?_cons_succ] at c0 c1 c2 c3 c4
  cases sm with
  | true =>
    obtain rfl := h3 rfl
    clear h3
    go_enter Try.func33, Try.ntmps33
    go_wp2_with (fail)
    go_ret
    exact ⟨rfl, gb_refl _ _, _, _, HH.out, h2, fun _ => rfl⟩
  | false =>
    clear h3
    have hl := piece_length hle
    go_enter Try.func33, Try.ntmps33
    go_wp2_with (fail)
    refine (wtext_any g data at' n _ c0 c1 c2 hle hd).mono ?_
    rintro e w1 ⟨rfl, hb1⟩
    go_wp2_with (fail)
    refine (Weak_any (piece data at' n) _ (by omega)).mono ?_
    rintro e w2 ⟨rfl, hb2⟩
    have hB := hb1.trans (hb2.mono hb1.size)
    have hh2 := (hB.block g hg).trans HH.out
    have f3 := frozen_of_row w2 g 3 _ _ hh2
    have f4 := frozen_of_row w2 g 4 _ _ hh2
    have d3 := cell_of_row w2 g 3 _ _ _ hh2
    have d4 := cell_of_row w2 g 4 _ _ _ hh2
    simp only [mkV, List.getElem?_toArray, List.getElem?_cons_zero, List.getElem?_cons_succ] at d3 d4
    have HH2 := Lib.hid hh2
    clear hh2 hb1 hb2 c0 c1 c2 c3 c4
    generalize hp : piece data at' n = p at *
    go_wp2_with (fail)
    go_ret
    have hfin : ((w2.setCell ⟨g, 3, none⟩ (.int .u32 (weak p : Nat))).setCell ⟨g, 4, none⟩ (.bool true)).heap[g]? = some (.cells (mkV data at' n (weak p) true mv lv) 62 (0, 0)) := by
      rw [heap_set (heap_set HH2.out 3 _) 4 _]
      simp [mkV]
    have hgb0 : w.grownBy w2 (some g) := gb_below (gb_refl _ _) hB
    have hgb1 : w.grownBy (w2.setCell ⟨g, 3, none⟩ (.int .u32 (weak p : Nat))) (some g) := gb_set hgb0 (p := ⟨g, 3, none⟩) (.inl rfl) _
    have hgb : w.grownBy ((w2.setCell ⟨g, 3, none⟩ (.int .u32 (weak p : Nat))).setCell ⟨g, 4, none⟩ (.bool true)) (some g) := gb_set hgb1 (p := ⟨g, 4, none⟩) (.inl rfl) _
    rw [hp]
    refine ⟨rfl, hgb, ?_⟩
    unfold MkAt
    rw [hp]
    exact ⟨weak p, true, hfin, weak_lt p, fun _ => rfl⟩

theorem piece_on {data : List UInt8} {at' n : Nat} (hn : 1 ≤ n) (h : at' + 1 + n ≤ data.length) :
    weak (piece data (at' + 1) n) = roll (weak (piece data at' n)) (n : Nat) (data[at']'(by omega)).toNat (data[at' + n]'(by omega)).toNat := by
  obtain ⟨m, rfl⟩ : ∃ m, n = m + 1 := ⟨n - 1, by omega⟩
  have hl : (piece data (at' + 1) m).length = m := piece_length (by omega)
  have e1 : piece data at' (m + 1) = data[at']'(by omega) :: piece data (at' + 1) m := by
    unfold piece
    rw [List.drop_eq_getElem_cons (by omega), List.take_succ_cons]
  have e2 : piece data (at' + 1) (m + 1) = piece data (at' + 1) m ++ [data[at' + (m + 1)]'(by omega)] := by
    unfold piece
    rw [List.take_succ_eq_append_getElem (by simp; omega)]
    congr 2
    rw [List.getElem_drop]
    congr 1; omega
  have := roll_weak (piece data (at' + 1) m) (data[at']'(by omega)) (data[at' + (m + 1)]'(by omega))
  rw [hl] at this
  rw [e1, e2, this]

theorem index_sum {data : List UInt8} {a b : Nat} (W : World) (h : a + b < data.length) :
    (Instr.index 9 (.string ⟨data.toArray⟩) (.int .i64 ((a : Int) + (b : Int)))).run Try.prog W = .ok (.int .u8 ((data[a + b]'h).toNat : Nat)) W := by
  have e : ((a : Int) + (b : Int)) = ((a + b : Nat) : Int) := by omega
  rw [e]
  generalize a + b = k at h ⊢
  have hk : k < (ByteArray.mk data.toArray).size := by simpa [ByteArray.size] using h
  simp [Instr.index, go_sem]
  rw [getElem?_pos (ByteArray.mk data.toArray) k hk]
  rfl

set_option maxRecDepth 100000 in
set_option maxHeartbeats 2000000 in
theorem won_any (g : Nat) (data : List UInt8) (at' n by' size n' : Nat) (mv lv : Value) (w : World) (h : MkAt g data at' n mv lv w) (hle : at' + n ≤ data.length) (hd : data.length ≤ 4294967296) (hn : 1 ≤ n) (hby : 1 ≤ by') (hon : at' + by' ≤ data.length) (hs : 1 ≤ size) (hs2 : size ≤ 65536)
    (hn' : n' = min size (data.length - (at' + by'))) :
    Calls Try.prog 24 #[.pointer (some ⟨g, 0, none⟩), .int .i64 (by' : Nat), .int .i64 (size : Nat)] w fun e w' => e = .returned (.tuple #[]) ∧ w.grownBy w' (some g) ∧ MkAt g data (at' + by') n' mv lv w' := by
  have hg := h.lt
  obtain ⟨wk, sm, h1, h2, h3⟩ := h
  have c0 := cell_of_row w g 0 _ _ _ h1
  have c1 := cell_of_row w g 1 _ _ _ h1
  have c2 := cell_of_row w g 2 _ _ _ h1
  have c3 := cell_of_row w g 3 _ _ _ h1
  have c4 := cell_of_row w g 4 _ _ _ h1
  have f1 := frozen_of_row w g 1 _ _ h1
  have f2 := frozen_of_row w g 2 _ _ h1
  have f3 := frozen_of_row w g 3 _ _ h1
  have f4 := frozen_of_row w g 4 _ _ h1
  have HH := Lib.hid h1
  clear h1
  simp only [mkV, List.getElem?_toArray, List.getElem?_cons_zero, List.getElem?_cons_succ] at c0 c1 c2 c3 c4
  have hmin : (if (data.length : Int) - at' - by' < (size : Int) then (data.length : Int) - at' - by' else (size : Int)) = (n' : Nat) := by
    split <;> omega
  have HMIN := Lib.hid hmin
  clear hmin
  -- the last two stores
  have hlast : ∀ (W : World) (wk' : Nat) (sm' : Bool), w.grownBy W (some g) → W.heap[g]? = some (.cells (mkV data at' n wk' sm' mv lv) 62 (0, 0)) → wk' < 4294967296 → (sm' = true → wk' = weak (piece data (at' + by') n')) →
      w.grownBy ((W.setCell ⟨g, 1, none⟩ (.int .i64 ((at' : Int) + (by' : Int)))).setCell ⟨g, 2, none⟩ (.int .i64 (n' : Nat))) (some g) ∧ MkAt g data (at' + by') n' mv lv ((W.setCell ⟨g, 1, none⟩ (.int .i64 ((at' : Int) + (by' : Int)))).setCell ⟨g, 2, none⟩ (.int .i64 (n' : Nat))) := by
    intro W wk' sm' hgb hh hwk hsm
    have hgb1 := gb_set hgb (p := ⟨g, 1, none⟩) (.inl rfl) (.int .i64 ((at' : Int) + (by' : Int)))
    refine ⟨gb_set hgb1 (p := ⟨g, 2, none⟩) (.inl rfl) _, wk', sm', ?_, hwk, hsm⟩
    rw [heap_set (heap_set hh 1 _) 2 _]
    simp [mkV, Int.natCast_add]
  have hN1 : n' ≤ size := by omega
  have hN2 : at' + by' + n' ≤ data.length := by omega
  have HL := Lib.hid hlast
  clear hlast hn'
  have hoff : ∀ nq : Nat, ((w.drewN nq).setCell ⟨g, 4, none⟩ (.bool false)).heap[g]? = some (.cells (mkV data at' n wk false mv lv) 62 (0, 0)) := by
    intro nq
    rw [heap_set (W := w.drewN nq) HH.out 4 _]
    simp [mkV]
  have HOFF := Lib.hid hoff
  have hgoff : ∀ nq : Nat, w.grownBy ((w.drewN nq).setCell ⟨g, 4, none⟩ (.bool false)) (some g) := fun nq => gb_set (gb_drewN (gb_refl w _) nq) (.inl rfl) _
  have HGOFF := Lib.hid hgoff
  clear hoff hgoff
  cases sm with
  | false =>
    clear h3
    go_enter Try.func24, Try.ntmps24
    go_wp2_with (fail)
    go_quiet (fail)
    rw [HMIN.out]
    go_wp2_with (fail)
    go_end0
    obtain ⟨q1, q2⟩ := HL.out _ wk false (HGOFF.out nq) (HOFF.out nq) h2 (fun h => by cases h)
    exact ⟨rfl, q1, q2⟩
  | true =>
    obtain rfl := h3 rfl
    clear h3
    by_cases h1 : by' = 1
    case neg =>
      have b1 : ((by' : Int) == 1) = false := by rw [beq_eq_false_iff_ne]; omega
      clear h1
      go_enter Try.func24, Try.ntmps24
      go_wp2_with (fail)
      go_quiet (fail)
      rw [HMIN.out]
      go_wp2_with (fail)
      go_end0
      obtain ⟨q1, q2⟩ := HL.out _ _ false (HGOFF.out nq) (HOFF.out nq) (weak_lt _) (fun h => by cases h)
      exact ⟨rfl, q1, q2⟩
    case pos =>
      have b1 : ((by' : Int) == 1) = true := by rw [beq_iff_eq]; omega
      by_cases h2 : n' = n
      case neg =>
        have b2 : ((n' : Int) == (n : Int)) = false := by rw [beq_eq_false_iff_ne]; omega
        clear h1 h2
        go_enter Try.func24, Try.ntmps24
        go_wp2_with (fail)
        go_quiet (fail)
        rw [HMIN.out]
        go_wp2_with (fail)
        go_end0
        obtain ⟨q1, q2⟩ := HL.out _ _ false (HGOFF.out nq) (HOFF.out nq) (weak_lt _) (fun h => by cases h)
        exact ⟨rfl, q1, q2⟩
      case pos =>
        have b2 : ((n' : Int) == (n : Int)) = true := by rw [beq_iff_eq]; omega
        have i1 : at' < data.length := by omega
        have i2 : at' + n' < data.length := by omega
        have hx : weak (piece data (at' + by') n') = roll (weak (piece data at' n)) (n' : Nat) (data[at']'i1).toNat (data[at' + n']'i2).toNat := by
          subst h1 h2
          exact piece_on (data := data) (at' := at') (n := n') hn (by omega)
        have HX := Lib.hid hx
        have hr := fun W => Roll_any (weak (piece data at' n)) (n' : Nat) (data[at']'i1).toNat (data[at' + n']'i2).toNat W (weak_lt _) (UInt8.toNat_lt _) (UInt8.toNat_lt _) (by omega) (by omega)
        have hidx := fun W : World => index_sum (data := data) (a := at') (b := n') W i2
        clear hx h1 h2
        go_enter Try.func24, Try.ntmps24
        go_wp2_with (fail)
        go_quiet (fail)
        rw [HMIN.out]
        go_wp2_with (fail)
        have hh4 := HOFF.out nq
        have hg4 := HGOFF.out nq
        have hoffEq : ((w.drewN nq).setCell ⟨g, 4, none⟩ (.bool true)).heap[g]? = some (.cells (mkV data at' n (weak (piece data at' n)) true mv lv) 62 (0, 0)) := by
          rw [heap_set (W := w.drewN nq) HH.out 4 _]
          simp [mkV]
        have hgb4 : w.grownBy ((w.drewN nq).setCell ⟨g, 4, none⟩ (.bool true)) (some g) := gb_set (gb_drewN (gb_refl w _) nq) (.inl rfl) _
        clear hh4 hg4
        generalize (w.drewN nq).setCell ⟨g, 4, none⟩ (.bool true) = W1 at hoffEq hgb4 ⊢
        have d0 := cell_of_row W1 g 0 _ _ _ hoffEq
        have d1 := cell_of_row W1 g 1 _ _ _ hoffEq
        have d3 := cell_of_row W1 g 3 _ _ _ hoffEq
        simp only [mkV, List.getElem?_toArray, List.getElem?_cons_zero, List.getElem?_cons_succ] at d0 d1 d3
        have hgl : g < W1.heap.size := (Array.getElem?_eq_some_iff.1 hoffEq).1
        have HO4 := Lib.hid hoffEq
        clear hoffEq c0 c1 c2 c3 c4
        refine wp_region_quiet_tail 29 (by kernel_rfl) (by kernel_rfl) ?_
        simp only [List.take, List.drop]
        repeat first
          | (go_big_quiet_want; refine quiet_load_cell 31 _ rfl _ rfl _ _ d3 Try.underlying31 rfl ?_; simp only [Act.put, List.setIfInBounds_toArray, List.set_cons_succ, List.set_cons_zero]; go_big_quiet_on)
          | (go_big_quiet_want; refine quiet_load_cell 9 _ rfl _ rfl _ _ d0 Try.underlying9 rfl ?_; simp only [Act.put, List.setIfInBounds_toArray, List.set_cons_succ, List.set_cons_zero]; go_big_quiet_on)
          | (go_big_quiet_want; refine quiet_load_cell 3 _ rfl _ rfl _ _ d1 Try.underlying3 rfl ?_; simp only [Act.put, List.setIfInBounds_toArray, List.set_cons_succ, List.set_cons_zero]; go_big_quiet_on)
          | go_big_quiet_step ((intro hW; go_at_call 35; exact Ret.quiet hW (hr _)))
        refine wpQuiet_nil ?_
        intro W2 hW2
        have hh2 := (hW2.block g hgl).trans HO4.out
        have f1 := frozen_of_row W2 g 1 _ _ hh2
        have f2 := frozen_of_row W2 g 2 _ _ hh2
        have f3 := frozen_of_row W2 g 3 _ _ hh2
        have e1 := cell_of_row W2 g 1 _ _ _ hh2
        have e2 := cell_of_row W2 g 2 _ _ _ hh2
        have e3 := cell_of_row W2 g 3 _ _ _ hh2
        simp only [mkV, List.getElem?_toArray, List.getElem?_cons_zero, List.getElem?_cons_succ] at e1 e2 e3
        have hg2 : w.grownBy W2 (some g) := gb_below hgb4 hW2
        have hrl := roll_lt (weak (piece data at' n)) (n' : Nat) (data[at']'i1).toNat (data[at' + n']'i2).toNat
        have hlast := HL.out (W2.setCell ⟨g, 3, none⟩ (.int .u32 (roll (weak (piece data at' n)) (n' : Nat) (data[at']'i1).toNat (data[at' + n']'i2).toNat : Nat))) _ true (gb_set hg2 (p := ⟨g, 3, none⟩) (.inl rfl) _) (by rw [heap_set hh2 3 _]; simp [mkV]) hrl (fun _ => HX.out.symm)
        have HLAST := Lib.hid hlast
        clear hlast hh2 d0 d1 d3 hr hidx
        generalize roll (weak (piece data at' n)) (n' : Nat) (data[at']'i1).toNat (data[at' + n']'i2).toNat = rr at *
        go_wp2_with (fail)
        go_end0
        exact ⟨rfl, HLAST.out.1, HLAST.out.2⟩
end Go.Proofs.Ytgohhhfnffhgmaa
