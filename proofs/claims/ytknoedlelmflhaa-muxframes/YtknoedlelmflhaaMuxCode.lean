/- A frame's bytes, there and back: mux.Encode, mux.Decode and the document's. -/
import Derived.Test.YtknoedlelmflhaaRefReader
import Derived.Test.YtknoedlelmflhaaCodeRef
import Derived.Test.YtknoedlelmflhaaCodeAll
import Derived.Test.YtknoedlelmflhaaQuietTail
import Derived.Test.YtknoedlelmflhaaLoads
import Derived.Test.YtknoedlelmflhaaMuxAwake
namespace Go.Proofs.Ytknoedlelmflhaa
open Go.RowKit Plain

theorem below_alloc (w : World) (o : Obj) : Below w.heap.size w (w.alloc o) := (Below.refl _ _).alloc (Nat.le_refl _) o
def frameB (c a : Int) (t : List UInt8) (l : Bool) : List UInt8 := if c < 0 ∨ a < 0 then [] else numB c.toNat ++ numB a.toNat ++ textB t ++ flagB l

set_option maxRecDepth 100000 in
set_option maxHeartbeats 2000000 in
theorem Encode_any (c a : Int) (t : List UInt8) (l : Bool) (w : World) (hc : c ≤ 9223372036854775807) (ha : a ≤ 9223372036854775807) (ht : t.length ≤ 140737488351232) :
    Calls Try.prog 25 #[frmV c a t l] w (Ret w (.string ⟨(frameB c a t l).toArray⟩)) := by
  have hb0 := (Below.refl w.heap.size w).alloc (Nat.le_refl _) (.cells #[.int .i64 c, .int .i64 a, .string ⟨t.toArray⟩, .bool l] 37)
  have hbx := heap_alloc_new w (.cells #[.int .i64 c, .int .i64 a, .string ⟨t.toArray⟩, .bool l] 37)
  unfold frmV frameB
  by_cases hn : c < 0 ∨ a < 0
  · rw [if_pos hn]
    by_cases hc0 : c < 0
    · have hcb : decide (c < 0) = true := decide_eq_true hc0
      clear hn hbx
      go_enter Try.func25, Try.ntmps25
      go_wp2_with (fail)
      go_ret
      exact ⟨rfl, hb0⟩
    · have ha0 : a < 0 := by omega
      have hcb : decide (c < 0) = false := decide_eq_false hc0
      have hab : decide (a < 0) = true := decide_eq_true ha0
      clear hn hbx
      go_enter Try.func25, Try.ntmps25
      go_wp2_with (fail)
      go_ret
      exact ⟨rfl, hb0⟩
  · rw [if_neg hn]
    obtain ⟨x, rfl⟩ := Int.eq_ofNat_of_zero_le (show 0 ≤ c by omega)
    obtain ⟨y, rfl⟩ := Int.eq_ofNat_of_zero_le (show 0 ≤ a by omega)
    simp only [Int.toNat_natCast]
    have h1 := fun W => Num_any x W (by omega)
    have h2 := fun W => Num_any y W (by omega)
    have h3 := fun W => CText_any t W (by omega)
    have h4 := fun W => Flag_any l W
    have hcb : decide ((x : Int) < 0) = false := decide_eq_false (by omega)
    have hab : decide ((y : Int) < 0) = false := decide_eq_false (by omega)
    have HBX := Lib.hid hbx
    have HB0 := Lib.hid hb0
    clear hn hbx hc ha hb0
    go_enter Try.func25, Try.ntmps25
    go_wp2_with (fail)
    generalize w.alloc (.cells #[.int .i64 ((x : Nat) : Int), .int .i64 ((y : Nat) : Int), .string ⟨t.toArray⟩, .bool l] 37) = w0 at *
    have q0 := cell_of_row _ _ 0 _ _ _ HBX.out
    have q1 := cell_of_row _ _ 1 _ _ _ HBX.out
    have q2 := cell_of_row _ _ 2 _ _ _ HBX.out
    have q3 := cell_of_row _ _ 3 _ _ _ HBX.out
    simp at q0 q1 q2 q3
    refine wp_region_quiet_tail 12 (by kernel_rfl) (by kernel_rfl) ?_
    simp only [List.take, List.drop]
    iterate 3 (first | (go_big_quiet_want; refine quiet_load_cell 3 _ rfl _ rfl _ _ q0 Try.underlying3 rfl ?_; simp only [Act.put, List.setIfInBounds_toArray, List.set_cons_succ, List.set_cons_zero]; go_big_quiet_on) | go_big_quiet_step ((intro hW; go_at_call 35; exact Ret.quiet hW (h1 _))))
    iterate 3 (first | (go_big_quiet_want; refine quiet_load_cell 3 _ rfl _ rfl _ _ q1 Try.underlying3 rfl ?_; simp only [Act.put, List.setIfInBounds_toArray, List.set_cons_succ, List.set_cons_zero]; go_big_quiet_on) | go_big_quiet_step ((intro hW; go_at_call 35; exact Ret.quiet hW (h2 _))))
    iterate 3 (first | (go_big_quiet_want; refine quiet_load_cell 9 _ rfl _ rfl _ _ q2 Try.underlying9 rfl ?_; simp only [Act.put, List.setIfInBounds_toArray, List.set_cons_succ, List.set_cons_zero]; go_big_quiet_on) | go_big_quiet_step ((intro hW; go_at_call 36; exact Ret.quiet hW (h3 _))))
    iterate 3 (first | (go_big_quiet_want; refine quiet_load_cell 4 _ rfl _ rfl _ _ q3 Try.underlying4 rfl ?_; simp only [Act.put, List.setIfInBounds_toArray, List.set_cons_succ, List.set_cons_zero]; go_big_quiet_on) | go_big_quiet_step ((intro hW; go_at_call 37; exact Ret.quiet hW (h4 _))))
    refine wpQuiet_nil ?_
    intro W hW
    go_wp2_with (fail)
    have hlx := numF_length 9 x
    have hly := numF_length 9 y
    have htl : (textB t).length ≤ t.length + 9 := by
      have := numF_length 9 t.length
      simp only [textB, List.length_append, numB]; omega
    have hfl : (flagB l).length = 1 := by cases l <;> rfl
    have hA := All_any (some ⟨W.heap.size, 0, none⟩) 4 [numB x, numB y, textB t, flagB l] (W.alloc (.cells #[.string ⟨(numB x).toArray⟩, .string ⟨(numB y).toArray⟩, .string ⟨(textB t).toArray⟩, .string ⟨(flagB l).toArray⟩] 9))
      ⟨rfl, fun _ => ⟨_, rfl, fun j u hu => by
        rw [show (⟨W.heap.size, 0, none⟩ : Addr).add j = ⟨W.heap.size, j, none⟩ by unfold Addr.add; split <;> simp_all, cell_of_row _ _ _ _ _ _ (heap_alloc_new W _)]
        simpa [strs, strV] using hu⟩⟩ (by simp) (by simp) (by omega) (by rw [join_nilsep]; simp [numB] at hlx hly ⊢; omega)
    rw [join_nilsep] at hA
    refine hA.mono ?_
    rintro e w5 ⟨rfl, hb5⟩
    go_wp2_with (fail)
    go_ret
    refine ⟨by simp, ?_⟩
    have hW2 := HB0.out.trans (hW.mono HB0.out.size)
    have hW3 := hW2.alloc hW2.size (.cells #[.string ⟨(numB x).toArray⟩, .string ⟨(numB y).toArray⟩, .string ⟨(textB t).toArray⟩, .string ⟨(flagB l).toArray⟩] 9)
    exact hW3.trans (hb5.mono hW3.size)

set_option maxRecDepth 100000 in
set_option maxHeartbeats 2000000 in
theorem RefEncode_any (c a : Int) (t : List UInt8) (l : Bool) (w : World) (hc : c ≤ 9223372036854775807) (ha : a ≤ 9223372036854775807) (ht : t.length ≤ 140737488351232) :
    Calls Try.prog 28 #[frmV c a t l] w (Ret w (.string ⟨(frameB c a t l).toArray⟩)) := by
  have hb0 := (Below.refl w.heap.size w).alloc (Nat.le_refl _) (.cells #[.int .i64 c, .int .i64 a, .string ⟨t.toArray⟩, .bool l] 37)
  have hbx := heap_alloc_new w (.cells #[.int .i64 c, .int .i64 a, .string ⟨t.toArray⟩, .bool l] 37)
  unfold frmV frameB
  by_cases hn : c < 0 ∨ a < 0
  · rw [if_pos hn]
    by_cases hc0 : c < 0
    · have hcb : decide (c < 0) = true := decide_eq_true hc0
      clear hn hbx
      go_enter Try.func28, Try.ntmps28
      go_wp2_with (fail)
      go_ret
      exact ⟨rfl, hb0⟩
    · have ha0 : a < 0 := by omega
      have hcb : decide (c < 0) = false := decide_eq_false hc0
      have hab : decide (a < 0) = true := decide_eq_true ha0
      clear hn hbx
      go_enter Try.func28, Try.ntmps28
      go_wp2_with (fail)
      go_ret
      exact ⟨rfl, hb0⟩
  · rw [if_neg hn]
    obtain ⟨x, rfl⟩ := Int.eq_ofNat_of_zero_le (show 0 ≤ c by omega)
    obtain ⟨y, rfl⟩ := Int.eq_ofNat_of_zero_le (show 0 ≤ a by omega)
    simp only [Int.toNat_natCast]
    have h1 := fun W => RefNum_any x W (by omega)
    have h2 := fun W => RefNum_any y W (by omega)
    have h3 := fun W => RefText_any t W (by omega)
    have h4 := fun W => RefFlag_any l W
    have hcb : decide ((x : Int) < 0) = false := decide_eq_false (by omega)
    have hab : decide ((y : Int) < 0) = false := decide_eq_false (by omega)
    have hlx : (numB x).length ≤ 9 := numF_length 9 x
    have hly : (numB y).length ≤ 9 := numF_length 9 y
    have htl : (textB t).length ≤ t.length + 9 := by
      have := numF_length 9 t.length
      simp only [textB, List.length_append, numB]; omega
    have hfl : (flagB l).length = 1 := by cases l <;> rfl
    have HBX := Lib.hid hbx
    have HB0 := Lib.hid hb0
    clear hn hbx hc ha hb0
    go_enter Try.func28, Try.ntmps28
    go_wp2_with (fail)
    generalize w.alloc (.cells #[.int .i64 ((x : Nat) : Int), .int .i64 ((y : Nat) : Int), .string ⟨t.toArray⟩, .bool l] 37) = w0 at *
    have q0 := cell_of_row _ _ 0 _ _ _ HBX.out
    have q1 := cell_of_row _ _ 1 _ _ _ HBX.out
    have q2 := cell_of_row _ _ 2 _ _ _ HBX.out
    have q3 := cell_of_row _ _ 3 _ _ _ HBX.out
    simp at q0 q1 q2 q3
    refine wp_region_below (by kernel_rfl) (by kernel_rfl) ?_
    iterate 3 (first | (go_big_quiet_want; refine quiet_load_cell 3 _ rfl _ rfl _ _ q0 Try.underlying3 rfl ?_; simp only [Act.put, List.setIfInBounds_toArray, List.set_cons_succ, List.set_cons_zero]; go_big_quiet_on) | go_big_quiet_step ((intro hW; go_at_call 47; exact Ret.quiet hW (h1 _))))
    iterate 3 (first | (go_big_quiet_want; refine quiet_load_cell 3 _ rfl _ rfl _ _ q1 Try.underlying3 rfl ?_; simp only [Act.put, List.setIfInBounds_toArray, List.set_cons_succ, List.set_cons_zero]; go_big_quiet_on) | go_big_quiet_step ((intro hW; go_at_call 47; exact Ret.quiet hW (h2 _))))
    iterate 4 (first | (go_big_quiet_want; refine quiet_load_cell 9 _ rfl _ rfl _ _ q2 Try.underlying9 rfl ?_; simp only [Act.put, List.setIfInBounds_toArray, List.set_cons_succ, List.set_cons_zero]; go_big_quiet_on) | go_big_quiet_step ((intro hW; go_at_call 48; exact Ret.quiet hW (h3 _))))
    iterate 6 (first | (go_big_quiet_want; refine quiet_load_cell 4 _ rfl _ rfl _ _ q3 Try.underlying4 rfl ?_; simp only [Act.put, List.setIfInBounds_toArray, List.set_cons_succ, List.set_cons_zero]; go_big_quiet_on) | go_big_quiet_step ((intro hW; go_at_call 49; exact Ret.quiet hW (h4 _))))
    refine wpQuiet_nil ?_
    intro W hW
    go_wp2_with (fail)
    go_ret
    exact ⟨by simp, HB0.out.trans (hW.mono HB0.out.size)⟩

/-- what is read of bytes: a frame, and the fault -/
def decB (s : List UInt8) : (Nat × Nat × List UInt8 × Bool) × Nat :=
  let r1 := takeR passNum (s, 0)
  let r2 := takeR passNum r1.2
  let t := textR 65536 r2.2
  let r3 := takeR (passText 65536) r2.2
  let r4 := flagR r3.2
  if endR r4.2 = 0 then ((r1.1, r2.1, t, r4.1), 0) else ((0, 0, [], false), 160)
def decV (s : List UInt8) : Value := frmV ((decB s).1.1 : Nat) ((decB s).1.2.1 : Nat) (decB s).1.2.2.1 (decB s).1.2.2.2

set_option maxRecDepth 100000 in
set_option maxHeartbeats 2000000 in
theorem Decode_any (s : List UInt8) (w : World) (hs : s.length ≤ 140737488355328) :
    Calls Try.prog 26 #[.string ⟨s.toArray⟩] w (Ret w (.tuple #[decV s, .int .i64 ((decB s).2 : Nat)])) := by
  unfold decV decB
  rcases h1 : takeR passNum (s, 0) with ⟨n1, s1, f1⟩
  rcases h2 : takeR passNum (s1, f1) with ⟨n2, s2, f2⟩
  rcases h3 : takeR (passText 65536) (s2, f2) with ⟨n3, s3, f3⟩
  rcases h5 : flagR (s3, f3) with ⟨b4, s4, f4⟩
  simp only [h2, h3, h5]
  generalize h6 : textR 65536 (s2, f2) = t
  generalize h7 : endR (s4, f4) = e4
  generalize hv : (if e4 = 0 then ((n1, n2, t, b4), 0) else ((0, 0, [], false), 160) : (Nat × Nat × List UInt8 × Bool) × Nat) = v
  have H1 := Lib.hid h1
  have H2 := Lib.hid h2
  have H3 := Lib.hid h3
  have H5 := Lib.hid h5
  have H6 := Lib.hid h6
  have H7 := Lib.hid h7
  have HV := Lib.hid hv
  clear h1 h2 h3 h5 h6 h7 hv
  have hx1 := heap_alloc_new w (.cells #[.int .i64 0, .int .i64 0, .string ⟨#[]⟩, .bool false] 37)
  have HX1 := Lib.hid hx1
  clear hx1
  go_enter Try.func26, Try.ntmps26
  go_wp2_with (fail)
  refine (New_any _ _ hs).mono ?_
  rintro e w1 ⟨rfl, hr1, hb1⟩
  have hc1 : w1.heap[w.heap.size]? = some (.cells #[.int .i64 0, .int .i64 0, .string ⟨#[]⟩, .bool false] 37 (0, 0)) := by rw [hb1.block _ (by simp)]; exact HX1.out
  have B1 : Below w.heap.size w w1 := (((Below.refl w.heap.size w).alloc (Nat.le_refl _) _).trans (hb1.mono (by simp)))
  have hr1 : Rd (w.heap.size + 1 + 1) (w.heap.size + 1) (s, 0) w1 := by simpa using hr1
  have HC1 := Lib.hid hc1
  have HB1 := Lib.hid B1
  clear hc1 B1 hb1
  go_wp2_with (fail)
  have c1 := RNum_any _ _ _ _ _ hr1
  rw [H1.out] at c1
  refine c1.mono ?_
  rintro e w2 ⟨rfl, hr2, hg2⟩
  go_wp2_with (fail)
  have c2 := RNum_any _ _ _ _ _ hr2
  rw [H2.out] at c2
  refine c2.mono ?_
  rintro e w3 ⟨rfl, hr3, hg3⟩
  go_wp2_with (fail)
  have c3 := RText_any _ _ 65536 _ _ _ hr3
  rw [H3.out, H6.out] at c3
  refine c3.mono ?_
  rintro e w4 ⟨rfl, hr4, hg4⟩
  go_wp2_with (fail)
  have c4 := RFlag_any _ _ _ _ _ hr4
  rw [H5.out] at c4
  refine c4.mono ?_
  rintro e w5 ⟨rfl, hr5, hg5⟩
  go_wp2_with (fail)
  have B2 := below_gb HB1.out HB1.out.size hg2 (by omega)
  have B3 := below_gb B2 B2.size hg3 (by omega)
  have B4 := below_gb B3 B3.size hg4 (by omega)
  have B5 := below_gb B4 B4.size hg5 (by omega)
  have hne : ∀ k, k = w.heap.size → some k ≠ some (w.heap.size + 1) := fun k hk e => by injection e with e; omega
  have hlt := (Array.getElem?_eq_some_iff.1 HC1.out).1
  have hc5 : w5.heap[w.heap.size]? = some (.cells #[.int .i64 0, .int .i64 0, .string ⟨#[]⟩, .bool false] 37 (0, 0)) := by
    have s2 := hg2.size; have s3 := hg3.size; have s4 := hg4.size
    rw [hg5.block _ (by omega) (hne _ rfl), hg4.block _ (by omega) (hne _ rfl), hg3.block _ (by omega) (hne _ rfl), hg2.block _ hlt (hne _ rfl)]; exact HC1.out
  have hlt5 := (Array.getElem?_eq_some_iff.1 hc5).1
  have hr6 := hr5.below (below_alloc w5 (.cells #[.int .i64 (n1 : Nat), .int .i64 (n2 : Nat), .string ⟨t.toArray⟩, .bool b4] 37))
  have hc6 : (w5.alloc (.cells #[.int .i64 (n1 : Nat), .int .i64 (n2 : Nat), .string ⟨t.toArray⟩, .bool b4] 37)).heap[w.heap.size]? = some (.cells #[.int .i64 0, .int .i64 0, .string ⟨#[]⟩, .bool false] 37 (0, 0)) := heap_old' hc5
  have hf6 := heap_alloc_new w5 (.cells #[.int .i64 (n1 : Nat), .int .i64 (n2 : Nat), .string ⟨t.toArray⟩, .bool b4] 37)
  have B6 := B5.alloc B5.size (.cells #[.int .i64 (n1 : Nat), .int .i64 (n2 : Nat), .string ⟨t.toArray⟩, .bool b4] 37)
  have hs6 : w5.heap.size < (w5.alloc (.cells #[.int .i64 (n1 : Nat), .int .i64 (n2 : Nat), .string ⟨t.toArray⟩, .bool b4] 37)).heap.size := by simp
  generalize w5.alloc (.cells #[.int .i64 ((n1 : Nat) : Int), .int .i64 ((n2 : Nat) : Int), .string ⟨t.toArray⟩, .bool b4] 37) = w6 at *
  have c6 := REnd_any _ _ _ _ _ hr6
  rw [H7.out] at c6
  refine c6.mono ?_
  rintro e w7 ⟨rfl, hb7⟩
  have hc7 := (hb7.block w.heap.size (by omega)).trans hc6
  have hf7 := (hb7.block w5.heap.size hs6).trans hf6
  have B7 := B6.trans (hb7.mono B6.size)
  have HC7 := Lib.hid hc7
  have HF7 := Lib.hid hf7
  have HB7 := Lib.hid B7
  clear B2 B3 B4 B5 B6 B7 hne hlt hc5 hlt5 hr6 hc6 hf6 hs6 hc7 hf7 hb7 c1 c2 c3 c4 c6 hr1 hr2 hr3 hr4 hr5 hg2 hg3 hg4 hg5
  have hv := HV.out
  by_cases h0 : e4 = 0
  · subst h0
    rw [if_pos rfl] at hv
    subst hv
    go_wp2_with (first
      | (refine wpList_load_row rfl 37 _ rfl w5.heap.size rfl 37 _ (0, 0) _ HF7.out Try.underlying37 rfl infoFrame ?_)
      | (refine wpList_store_row rfl 37 (.tmp 2) (.tmp 21) rfl w.heap.size #[.int .i64 (n1 : Nat), .int .i64 (n2 : Nat), .string ⟨t.toArray⟩, .bool b4] _ 37 rfl rfl HC7.out rfl infoFrame (by simp [Value.oneCell']) ?_))
    intro w8 hg8 hs8 hr8
    have HR8 := Lib.hid hr8
    have B8 := Lib.hid (below_gb HB7.out HB7.out.size hg8 (Nat.le_refl _))
    clear hr8 hs8 hg8
    go_wp2_with (fail)
    refine bodyPost_ret (v := .tuple #[frmV (n1 : Nat) (n2 : Nat) t b4, .int .i64 0]) ?_ rfl ⟨rfl, B8.out⟩
    exact results_cell_row2 Try.results26 _ _ w.heap.size 37 _ (0, 0) _ _ rfl rfl HR8.out Try.underlying37 rfl infoFrame
  · rw [if_neg h0] at hv
    subst hv
    have hn0 : ((e4 : Int) != 0) = true := by simpa using h0
    go_wp2_with (first
      | (refine wpList_store_row rfl 37 (.tmp 2) (.tmp 20) rfl w.heap.size #[.int .i64 0, .int .i64 0, .string ⟨#[]⟩, .bool false] _ 37 rfl rfl HC7.out rfl infoFrame (by simp [Value.oneCell']) ?_))
    intro w8 hg8 hs8 hr8
    have HR8 := Lib.hid hr8
    have B8 := Lib.hid (below_gb HB7.out HB7.out.size hg8 (Nat.le_refl _))
    clear hr8 hs8 hg8
    go_wp2_with (fail)
    refine bodyPost_ret (v := .tuple #[frmV 0 0 [] false, .int .i64 160]) ?_ rfl ⟨rfl, B8.out⟩
    exact results_cell_row2 Try.results26 _ _ w.heap.size 37 _ (0, 0) _ _ rfl rfl HR8.out Try.underlying37 rfl infoFrame

theorem RR.set {br c k : Nat} {st : St} {w : World} (h : RR br st w) (hc : br ≠ c) (v : Value) : RR br st (w.setCell ⟨c, k, none⟩ v) := by
  obtain ⟨s, a, h⟩ := h
  exact ⟨s, a, (heap_set_ne hc _ _).trans h.row, h.le, h.rest, h.short⟩
theorem below_set {B : Nat} {a w : World} (h : Below B a w) {c k : Nat} (hc : B ≤ c) (v : Value) : Below B a (w.setCell ⟨c, k, none⟩ v) :=
  ⟨h.os, h.tape, h.output, by rw [show (w.setCell ⟨c, k, none⟩ v).heap.size = w.heap.size by simp [World.setCell]]; exact h.size, fun j hj => (heap_set_ne (by omega) _ _).trans (h.block j hj)⟩

set_option maxRecDepth 100000 in
set_option maxHeartbeats 2000000 in
theorem RefDecode_any (s : List UInt8) (w : World) (hs : s.length ≤ 140737488355328) :
    Calls Try.prog 27 #[.string ⟨s.toArray⟩] w (Ret w (.tuple #[decV s, .int .i64 ((decB s).2 : Nat)])) := by
  unfold decV decB
  rcases h1 : takeR passNum (s, 0) with ⟨n1, s1, f1⟩
  rcases h2 : takeR passNum (s1, f1) with ⟨n2, s2, f2⟩
  rcases h3 : takeR (passText 65536) (s2, f2) with ⟨n3, s3, f3⟩
  rcases h5 : flagR (s3, f3) with ⟨b4, s4, f4⟩
  simp only [h2, h3, h5]
  generalize h6 : textR 65536 (s2, f2) = t
  generalize h7 : endR (s4, f4) = e4
  generalize hv : (if e4 = 0 then ((n1, n2, t, b4), 0) else ((0, 0, [], false), 160) : (Nat × Nat × List UInt8 × Bool) × Nat) = v
  have H1 := Lib.hid h1
  have H2 := Lib.hid h2
  have H3 := Lib.hid h3
  have H5 := Lib.hid h5
  have H6 := Lib.hid h6
  have H7 := Lib.hid h7
  have HV := Lib.hid hv
  clear h1 h2 h3 h5 h6 h7 hv
  obtain ⟨w1, hw1⟩ : ∃ w1, ((w.alloc (.cells #[.int .i64 0, .int .i64 0, .string ⟨#[]⟩, .bool false] 37)).alloc (.cells #[.string ⟨s.toArray⟩, .int .i64 0, .int .i64 0] 99)).alloc (.cells #[.int .i64 0, .int .i64 0, .string ⟨#[]⟩, .bool false] 37) = w1 := ⟨_, rfl⟩
  have hc1 : w1.heap[w.heap.size]? = some (.cells #[.int .i64 0, .int .i64 0, .string ⟨#[]⟩, .bool false] 37 (0, 0)) := by rw [← hw1]; exact heap_old' (heap_old' (heap_alloc_new w _))
  have hd1 : w1.heap[w.heap.size + 1]? = some (.cells #[.string ⟨s.toArray⟩, .int .i64 0, .int .i64 0] 99 (0, 0)) := by rw [← hw1]; exact heap_old' (heap_new' _ _ _ (by simp))
  have hf1 : w1.heap[w.heap.size + 1 + 1]? = some (.cells #[.int .i64 0, .int .i64 0, .string ⟨#[]⟩, .bool false] 37 (0, 0)) := by rw [← hw1]; exact heap_new' _ _ _ (by simp)
  have B1 : Below w.heap.size w w1 := by rw [← hw1]; exact (((Below.refl w.heap.size w).alloc (Nat.le_refl _) _).alloc (by simp) _).alloc (by simp; omega) _
  have hr1 : RR (w.heap.size + 1) (s, 0) w1 := ⟨s, 0, hd1, Nat.zero_le _, by simp, hs⟩
  have HW1 := Lib.hid hw1
  have HC1 := Lib.hid hc1
  have HF1 := Lib.hid hf1
  have HB1 := Lib.hid B1
  have HR1 := Lib.hid hr1
  clear hw1 hc1 hf1 B1 hr1 hd1
  go_enter Try.func27, Try.ntmps27
  go_wp2_with (fail)
  rw [HW1.out]
  have cv1 := RefRNum_any _ _ _ _ HR1.out
  rw [H1.out] at cv1
  refine cv1.mono ?_
  rintro e v1 ⟨rfl, hr, hg⟩
  have hf := (hg.block (w.heap.size + 1 + 1) (lt_of_heap HF1.out) (fun e => by injection e with e; omega)).trans HF1.out
  have hc := (hg.block w.heap.size (lt_of_heap HC1.out) (fun e => by injection e with e; omega)).trans HC1.out
  have B := below_gb HB1.out HB1.out.size hg (by omega)
  have zv1 := frozen_of_row v1 _ 0 _ _ hf
  have yv1 := cell_of_row v1 _ 0 _ _ _ hf
  simp at yv1
  have hf' : (v1.setCell ⟨w.heap.size + 1 + 1, 0, none⟩ (.int .i64 (n1 : Nat))).heap[w.heap.size + 1 + 1]? = some (.cells #[.int .i64 (n1 : Nat), .int .i64 0, .string ⟨#[]⟩, .bool false] 37 (0, 0)) := by rw [heap_set hf]; rfl
  have hc' : (v1.setCell ⟨w.heap.size + 1 + 1, 0, none⟩ (.int .i64 (n1 : Nat))).heap[w.heap.size]? = some (.cells #[.int .i64 0, .int .i64 0, .string ⟨#[]⟩, .bool false] 37 (0, 0)) := (heap_set_ne (by omega) _ _).trans hc
  have B' := below_set B (c := w.heap.size + 1 + 1) (k := 0) (by omega) (.int .i64 (n1 : Nat))
  have hr' := hr.set (c := w.heap.size + 1 + 1) (k := 0) (by omega) (.int .i64 (n1 : Nat))
  have HFx1 := Lib.hid hf'
  have HCx1 := Lib.hid hc'
  have HBx1 := Lib.hid B'
  have HRx1 := Lib.hid hr'
  clear cv1 hr hg hf hc B hf' hc' B' hr'
  go_wp2_with (fail)
  clear zv1 yv1
  have cv2 := RefRNum_any _ _ _ _ HRx1.out
  rw [H2.out] at cv2
  refine cv2.mono ?_
  rintro e v2 ⟨rfl, hr, hg⟩
  have hf := (hg.block (w.heap.size + 1 + 1) (lt_of_heap HFx1.out) (fun e => by injection e with e; omega)).trans HFx1.out
  have hc := (hg.block w.heap.size (lt_of_heap HCx1.out) (fun e => by injection e with e; omega)).trans HCx1.out
  have B := below_gb HBx1.out HBx1.out.size hg (by omega)
  have zv2 := frozen_of_row v2 _ 1 _ _ hf
  have yv2 := cell_of_row v2 _ 1 _ _ _ hf
  simp at yv2
  have hf' : (v2.setCell ⟨w.heap.size + 1 + 1, 1, none⟩ (.int .i64 (n2 : Nat))).heap[w.heap.size + 1 + 1]? = some (.cells #[.int .i64 (n1 : Nat), .int .i64 (n2 : Nat), .string ⟨#[]⟩, .bool false] 37 (0, 0)) := by rw [heap_set hf]; rfl
  have hc' : (v2.setCell ⟨w.heap.size + 1 + 1, 1, none⟩ (.int .i64 (n2 : Nat))).heap[w.heap.size]? = some (.cells #[.int .i64 0, .int .i64 0, .string ⟨#[]⟩, .bool false] 37 (0, 0)) := (heap_set_ne (by omega) _ _).trans hc
  have B' := below_set B (c := w.heap.size + 1 + 1) (k := 1) (by omega) (.int .i64 (n2 : Nat))
  have hr' := hr.set (c := w.heap.size + 1 + 1) (k := 1) (by omega) (.int .i64 (n2 : Nat))
  have HFx2 := Lib.hid hf'
  have HCx2 := Lib.hid hc'
  have HBx2 := Lib.hid B'
  have HRx2 := Lib.hid hr'
  clear cv2 hr hg hf hc B hf' hc' B' hr'
  go_wp2_with (fail)
  clear zv2 yv2
  have cv3 := RefRText_any _ 65536 _ _ _ HRx2.out
  rw [H3.out, H6.out] at cv3
  refine cv3.mono ?_
  rintro e v3 ⟨rfl, hr, hg⟩
  have hf := (hg.block (w.heap.size + 1 + 1) (lt_of_heap HFx2.out) (fun e => by injection e with e; omega)).trans HFx2.out
  have hc := (hg.block w.heap.size (lt_of_heap HCx2.out) (fun e => by injection e with e; omega)).trans HCx2.out
  have B := below_gb HBx2.out HBx2.out.size hg (by omega)
  have zv3 := frozen_of_row v3 _ 2 _ _ hf
  have yv3 := cell_of_row v3 _ 2 _ _ _ hf
  simp at yv3
  have hf' : (v3.setCell ⟨w.heap.size + 1 + 1, 2, none⟩ (.string ⟨t.toArray⟩)).heap[w.heap.size + 1 + 1]? = some (.cells #[.int .i64 (n1 : Nat), .int .i64 (n2 : Nat), .string ⟨t.toArray⟩, .bool false] 37 (0, 0)) := by rw [heap_set hf]; rfl
  have hc' : (v3.setCell ⟨w.heap.size + 1 + 1, 2, none⟩ (.string ⟨t.toArray⟩)).heap[w.heap.size]? = some (.cells #[.int .i64 0, .int .i64 0, .string ⟨#[]⟩, .bool false] 37 (0, 0)) := (heap_set_ne (by omega) _ _).trans hc
  have B' := below_set B (c := w.heap.size + 1 + 1) (k := 2) (by omega) (.string ⟨t.toArray⟩)
  have hr' := hr.set (c := w.heap.size + 1 + 1) (k := 2) (by omega) (.string ⟨t.toArray⟩)
  have HFx3 := Lib.hid hf'
  have HCx3 := Lib.hid hc'
  have HBx3 := Lib.hid B'
  have HRx3 := Lib.hid hr'
  clear cv3 hr hg hf hc B hf' hc' B' hr'
  go_wp2_with (fail)
  clear zv3 yv3
  have cv4 := RefRFlag_any _ _ _ _ HRx3.out
  rw [H5.out] at cv4
  refine cv4.mono ?_
  rintro e v4 ⟨rfl, hr, hg⟩
  have hf := (hg.block (w.heap.size + 1 + 1) (lt_of_heap HFx3.out) (fun e => by injection e with e; omega)).trans HFx3.out
  have hc := (hg.block w.heap.size (lt_of_heap HCx3.out) (fun e => by injection e with e; omega)).trans HCx3.out
  have B := below_gb HBx3.out HBx3.out.size hg (by omega)
  have zv4 := frozen_of_row v4 _ 3 _ _ hf
  have yv4 := cell_of_row v4 _ 3 _ _ _ hf
  simp at yv4
  have hf' : (v4.setCell ⟨w.heap.size + 1 + 1, 3, none⟩ (.bool b4)).heap[w.heap.size + 1 + 1]? = some (.cells #[.int .i64 (n1 : Nat), .int .i64 (n2 : Nat), .string ⟨t.toArray⟩, .bool b4] 37 (0, 0)) := by rw [heap_set hf]; rfl
  have hc' : (v4.setCell ⟨w.heap.size + 1 + 1, 3, none⟩ (.bool b4)).heap[w.heap.size]? = some (.cells #[.int .i64 0, .int .i64 0, .string ⟨#[]⟩, .bool false] 37 (0, 0)) := (heap_set_ne (by omega) _ _).trans hc
  have B' := below_set B (c := w.heap.size + 1 + 1) (k := 3) (by omega) (.bool b4)
  have hr' := hr.set (c := w.heap.size + 1 + 1) (k := 3) (by omega) (.bool b4)
  have HFx4 := Lib.hid hf'
  have HCx4 := Lib.hid hc'
  have HBx4 := Lib.hid B'
  have HRx4 := Lib.hid hr'
  clear cv4 hr hg hf hc B hf' hc' B' hr'
  go_wp2_with (fail)
  clear zv4 yv4
  generalize v4.setCell ⟨w.heap.size + 1 + 1, 3, none⟩ (.bool b4) = w6 at *
  have c6 := RefREnd_any _ _ _ _ HRx4.out
  rw [H7.out] at c6
  refine c6.mono ?_
  rintro e w7 ⟨rfl, hb7⟩
  have hc7 := (hb7.block _ (lt_of_heap HCx4.out)).trans HCx4.out
  have hf7 := (hb7.block _ (lt_of_heap HFx4.out)).trans HFx4.out
  have B7 := HBx4.out.trans (hb7.mono HBx4.out.size)
  have HC7 := Lib.hid hc7
  have HF7 := Lib.hid hf7
  have HB7 := Lib.hid B7
  clear c6 hc7 hf7 B7 hb7
  have hv := HV.out
  by_cases h0 : e4 = 0
  · subst h0
    rw [if_pos rfl] at hv
    subst hv
    go_wp2_with (first
      | (refine wpList_load_row rfl 37 _ rfl (w.heap.size + 1 + 1) rfl 37 _ (0, 0) _ HF7.out Try.underlying37 rfl infoFrame ?_)
      | (refine wpList_store_row rfl 37 (.tmp 2) (.tmp 25) rfl w.heap.size #[.int .i64 (n1 : Nat), .int .i64 (n2 : Nat), .string ⟨t.toArray⟩, .bool b4] _ 37 rfl rfl HC7.out rfl infoFrame (by simp [Value.oneCell']) ?_))
    intro w8 hg8 hs8 hr8
    have HR8 := Lib.hid hr8
    have B8 := Lib.hid (below_gb HB7.out HB7.out.size hg8 (Nat.le_refl _))
    clear hr8 hs8 hg8
    go_wp2_with (fail)
    refine bodyPost_ret (v := .tuple #[frmV (n1 : Nat) (n2 : Nat) t b4, .int .i64 0]) ?_ rfl ⟨rfl, B8.out⟩
    exact results_cell_row2 Try.results27 _ _ w.heap.size 37 _ (0, 0) _ _ rfl rfl HR8.out Try.underlying37 rfl infoFrame
  · rw [if_neg h0] at hv
    subst hv
    have hn0 : ((e4 : Int) != 0) = true := by simpa using h0
    go_wp2_with (first
      | (refine wpList_store_row rfl 37 (.tmp 2) (.tmp 24) rfl w.heap.size #[.int .i64 0, .int .i64 0, .string ⟨#[]⟩, .bool false] _ 37 rfl rfl HC7.out rfl infoFrame (by simp [Value.oneCell']) ?_))
    intro w8 hg8 hs8 hr8
    have HR8 := Lib.hid hr8
    have B8 := Lib.hid (below_gb HB7.out HB7.out.size hg8 (Nat.le_refl _))
    clear hr8 hs8 hg8
    go_wp2_with (fail)
    refine bodyPost_ret (v := .tuple #[frmV 0 0 [] false, .int .i64 160]) ?_ rfl ⟨rfl, B8.out⟩
    exact results_cell_row2 Try.results27 _ _ w.heap.size 37 _ (0, 0) _ _ rfl rfl HR8.out Try.underlying37 rfl infoFrame
end Go.Proofs.Ytknoedlelmflhaa
