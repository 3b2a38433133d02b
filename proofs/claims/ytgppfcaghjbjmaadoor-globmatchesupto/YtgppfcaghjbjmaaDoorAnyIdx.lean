/- strings.ContainsAny for '/' and the byte 0. -/
import Derived.Test.YtgppfcaghjbjmaaDoorLib
import Derived.Test.YtgppfcaghjbjmaaDoorShelf
import Derived.Laws.Runes
import Derived.Laws.RangeAny
import Derived.Lib.Builder
import Derived.WalkMore
import Derived.Deep.QuietTactic
import Derived.BigQuiet
import Derived.Test.YtgppfcaghjbjmaaDoorPlainRune
import Derived.Lib.IndexAny
import Derived.Lib.OthersKept
namespace Go.Proofs.YtgppfcaghjbjmaaDoor
open Go.RowKit Plain

theorem IndexByte_none (s : ByteArray) (c : UInt8) (w : World) (hs : s.data.toList = []) :
    Calls Tryd.prog 91 #[.string s, .int .u8 (c.toNat : Int)] w (Ret w (.int .i64 (-1))) :=
  (Tryd.strings_IndexByte s (c.toNat : Int) w).mono fun e w' ⟨he, hw⟩ => ⟨by rw [he, hs]; rfl, hw ▸ Below.refl _ _⟩

set_option maxHeartbeats 2000000 in
set_option maxRecDepth 100000 in
theorem IndexRune_hi (r : Int) (w : World) (h0 : 128 ≤ r) (hr : r ≤ 1114111) (hne : r ≠ 65533) (hv : Utf8.valid r = true) :
    Calls Tryd.prog 85 #[.string ⟨#[47, 0]⟩, .int .i32 r] w (Ret w (.int .i64 (-1))) := by
  obtain ⟨hs2, hs4, hlast⟩ := encode_facts r hv h0
  have hvr : Lib.validRune r = true := by
    unfold Utf8.valid at hv
    unfold Lib.validRune
    simp at hv ⊢
    omega
  have HV := Lib.hid (Tryd.utf8_ValidRune r w)
  rw [hvr] at HV
  have hd : ((r : Int) == 65533) = false := by simpa using hne
  have hlast' := hlast (by omega)
  have hd2 : decide (r < 128) = false := by simp; omega
  clear hne hvr
  have g2 : (2 : Int) ≤ (Utf8.encode r).size := by omega
  have g4 : ((Utf8.encode r).size : Int) ≤ 4 := by omega
  by_cases h2 : (Utf8.encode r).size = 2
  · have h1 : 1 < (Utf8.encode r).size := by omega
    obtain ⟨x, hx⟩ : ∃ x, (Utf8.encode r)[1]'h1 = x := ⟨_, rfl⟩
    have hl : 128 ≤ x.toNat := by rw [← hx]; simpa [h2] using hlast'
    have x1 : ((x.toNat : Int) != 0) = true := by simp; omega
    have x2 : ((0 : Int) != x.toNat) = true := by simp; omega
    clear hlast hlast' hl hs2 hs4
    go_enter Tryd.func85, Tryd.ntmps85
    go_wp2_with (fail)
    refine HV.out.mono ?_
    rintro e w1 ⟨rfl, rfl⟩
    go_wp2_with (fail)
    go_step3
    go_wp2_with (fail)
    go_loopw [9] (fun t9 W => t9 = .int .i64 1 ∧ W = w1) (fun _ _ => 0)
    case atStart => exact ⟨rfl, rfl⟩
    case round =>
      obtain ⟨rfl, rfl⟩ := hrel
      go_wp2_with (fail)
      go_step3
      go_wp2_with (fail)
      refine wp_region_below (by kernel_rfl) (by kernel_rfl) ?_
      repeat (go_big_quiet_step (fail))
      refine wpQuiet_nil ?_
      intro W2 hW2
      go_wp2_with (fail)
      have e2 : IntKind.i64.wrap 2 = 2 := by decide
      refine wp_region_below (by kernel_rfl) (by kernel_rfl) ?_
      repeat (go_big_quiet_step ((intro hW; go_at_call 91; exact Ret.quiet hW (IndexByte_none _ _ _ rfl))))
      refine wpQuiet_nil ?_
      intro W3 hW3
      go_wp2_with (fail)
      rw [Exit.noGoto_ret]
      go_wp2_with (fail)
      rw [Exit.noGoto_ret]
      go_ret
      exact ⟨rfl, hW2.trans (hW3.mono hW2.size)⟩
  · have h3 : (2 : Int) ≤ ((Utf8.encode r).size : Int) - 1 := by omega
    clear hlast hlast' h2
    go_enter Tryd.func85, Tryd.ntmps85
    go_wp2_with (fail)
    refine HV.out.mono ?_
    rintro e w1 ⟨rfl, rfl⟩
    go_wp2_with (fail)
    go_step3
    go_wp2_with (fail)
    go_loopw [9] (fun t9 W => t9 = .int .i64 (((Utf8.encode r).size : Int) - 1) ∧ W = w1) (fun _ _ => 0)
    case atStart => exact ⟨rfl, rfl⟩
    case round =>
      obtain ⟨rfl, rfl⟩ := hrel
      go_wp2_with (fail)
      rw [Exit.noGoto_ret]
      go_ret
      exact ⟨rfl, Below.refl _ _⟩

set_option maxHeartbeats 2000000 in
set_option maxRecDepth 100000 in
theorem IndexRune_fffd (w : World) :
    Calls Tryd.prog 85 #[.string ⟨#[47, 0]⟩, .int .i32 65533] w (Ret w (.int .i64 (-1))) := by
  go_enter Tryd.func85, Tryd.ntmps85
  go_wp2_with (fail)
  go_loopw [5, 6] (fun t5 t6 W => ∃ i : Nat, i ≤ 2 ∧ W = w.iter ⟨#[47, 0]⟩ i) (fun _ _ W => 2 - W.iterPos w.heap.size)
  case atStart => exact ⟨0, by omega, rfl⟩
  case round =>
    obtain ⟨i, hi, rfl⟩ := hrel
    have : i = 0 ∨ i = 1 ∨ i = 2 := by omega
    rcases this with rfl | rfl | rfl
    · have hnx := fun ty => run_next_any (P := Tryd.prog) w ⟨#[47, 0]⟩ 0 ty (by decide)
      rw [show Utf8.decode ⟨#[47, 0]⟩ 0 = (47, 1) by decide +kernel] at hnx
      go_wp2_with (fail)
      go_roundw
      case rel => exact ⟨1, by omega, rfl⟩
      case measure => simp
    · have hnx := fun ty => run_next_any (P := Tryd.prog) w ⟨#[47, 0]⟩ 1 ty (by decide)
      rw [show Utf8.decode ⟨#[47, 0]⟩ 1 = (0, 1) by decide +kernel] at hnx
      go_wp2_with (fail)
      go_roundw
      case rel => exact ⟨2, by omega, rfl⟩
      case measure => simp
    · have hnx := fun ty => run_next_end (P := Tryd.prog) w ⟨#[47, 0]⟩ 2 ty (by decide)
      go_wp2_with (fail)
      go_ret
      exact ⟨rfl, (Below.refl _ _).alloc (Nat.le_refl _) _⟩

/-- some byte of a text is '/' or 0 -/
def anyM (l : List UInt8) : Bool := l.contains 47 || l.contains 0
def IdxOut (w : World) (l : List UInt8) (e : Ending) (w' : World) : Prop := ∃ x : Int, e = .returned (.int .i64 x) ∧ decide (0 ≤ x) = anyM l ∧ Below w.heap.size w w'

theorem IndexRune_lo (x : UInt8) (w : World) (h : x.toNat < 128) :
    Calls Tryd.prog 85 #[.string ⟨#[47, 0]⟩, .int .i32 (x.toNat : Int)] w (Ret w (.int .i64 (Lib.indexByte [47, 0] x))) :=
  (Tryd.strings_IndexRune_ascii ⟨#[47, 0]⟩ (x.toNat : Int) w (by omega) (by omega)).mono fun e w' ⟨he, hw⟩ => ⟨by rw [he]; simp, hw ▸ Below.refl _ _⟩
theorem idx_lo (x : UInt8) : Lib.indexByte [47, 0] x = if x = 47 then 0 else if x = 0 then 1 else -1 := by
  by_cases h : x = 47
  · subst h; rfl
  · by_cases h2 : x = 0
    · subst h2; rfl
    · simp [Lib.indexByte, h, h2, Ne.symm h, Ne.symm h2]

theorem anyM_none {l : List UInt8} (h : ∀ j, j < l.length → l.getD j 0 ≠ 47 ∧ l.getD j 0 ≠ 0) : anyM l = false := by
  unfold anyM
  rw [Bool.or_eq_false_iff]
  constructor
  · rw [← Bool.not_eq_true, List.contains_iff_mem]
    intro hm
    obtain ⟨j, hj, e⟩ := List.mem_iff_getElem.1 hm
    exact (h j hj).1 (by simp [List.getD, hj, e])
  · rw [← Bool.not_eq_true, List.contains_iff_mem]
    intro hm
    obtain ⟨j, hj, e⟩ := List.mem_iff_getElem.1 hm
    exact (h j hj).2 (by simp [List.getD, hj, e])
theorem anyM_some {l : List UInt8} {i : Nat} (hi : i < l.length) (h : l.getD i 0 = 47 ∨ l.getD i 0 = 0) : anyM l = true := by
  have hg : l.getD i 0 = l[i] := by simp [List.getD, hi]
  rw [hg] at h
  have hm := List.getElem_mem hi
  unfold anyM
  rcases h with h | h <;> rw [h] at hm <;> simp [hm]

set_option maxHeartbeats 1000000 in
set_option maxRecDepth 100000 in
theorem IndexAny_short (l : List UInt8) (w : World) (h8 : l.length ≤ 8) :
    Calls Tryd.prog 76 #[.string ⟨l.toArray⟩, .string ⟨#[47, 0]⟩] w (IdxOut w l) := by
  have hS := fun W => Tryd.strings_shouldUseASCIISet (l.length : Int) W
  rw [decide_eq_false (show ¬ (8 : Int) < l.length by omega)] at hS
  have HS := Lib.hid hS
  clear hS
  have hsz : (ByteArray.mk l.toArray).size = l.length := by simp [ByteArray.size]
  go_enter Tryd.func76, Tryd.ntmps76
  go_wp2_with (fail)
  refine (HS.out _).mono ?_
  rintro e w1 ⟨rfl, rfl⟩
  go_wp2_with (fail)
  go_loopw [9, 10] (fun _ _ W => ∃ i : Nat, i ≤ l.length ∧ Hid (∀ j, j < i → l.getD j 0 ≠ 47 ∧ l.getD j 0 ≠ 0) ∧ Hid (W.heap[w1.heap.size]? = some (.stringIter ⟨l.toArray⟩ i)) ∧ Hid (Below w1.heap.size w1 W)) (fun _ _ W => l.length - W.iterPos w1.heap.size)
  case atStart => exact ⟨0, by omega, Lib.hid (fun j h => by omega), Lib.hid (World.iter_heap _ _ _), Lib.hid ((Below.refl _ _).alloc (Nat.le_refl _) _)⟩
  case round =>
    obtain ⟨i, hi, HN, HI, HB⟩ := hrel
    have hk := HI.out
    have hpos : wr.iterPos w1.heap.size = i := by unfold World.iterPos; rw [hk]
    have HP := Lib.hid hpos
    clear hpos
    by_cases hlt : i < l.length
    · have hsz' : i < (ByteArray.mk l.toArray).size := by omega
      by_cases hb : (l.getD i 0).toNat < 128
      · have hnx := fun ty => Lib.run_next_any_at (P := Tryd.prog) wr w1.heap.size ⟨l.toArray⟩ i ty hk hsz'
        rw [dec_lo l i hb] at hnx
        have HS1 := Lib.hid (@anyM_some l i hlt)
        have hik := Lib.iterAt_heap wr w1.heap.size ⟨l.toArray⟩ i (i + 1) hk
        have hib := Lib.below_iterAt HB.out (Nat.le_refl _) ⟨l.toArray⟩ (i + 1)
        have his := Lib.iterAt_size wr w1.heap.size ⟨l.toArray⟩ (i + 1)
        generalize hx : l.getD i 0 = x at *
        have HX := Lib.hid hx
        have HIK := Lib.hid hik
        have HIB := Lib.hid hib
        have HC := Lib.hid (IndexRune_lo x (wr.iterAt w1.heap.size ⟨l.toArray⟩ (i + 1)) hb)
        rw [idx_lo] at HC
        clear hx hik hib hsz hk
        by_cases h1 : x = 47
        · rw [if_pos h1] at HC
          have H1 := Lib.hid h1
          clear h1
          go_wp2_with (fail)
          refine HC.out.mono ?_
          rintro e w2 ⟨rfl, hw2⟩
          go_wp2_with (fail)
          go_ret
          exact ⟨i, rfl, by rw [HS1.out (.inl H1.out)]; simp, HIB.out.trans (hw2.mono HIB.out.size)⟩
        by_cases h2 : x = 0
        · rw [if_neg h1, if_pos h2] at HC
          have H2 := Lib.hid h2
          clear h1 h2
          go_wp2_with (fail)
          refine HC.out.mono ?_
          rintro e w2 ⟨rfl, hw2⟩
          go_wp2_with (fail)
          go_ret
          exact ⟨i, rfl, by rw [HS1.out (.inr H2.out)]; simp, HIB.out.trans (hw2.mono HIB.out.size)⟩
        · rw [if_neg h1, if_neg h2] at HC
          have H12 := Lib.hid (And.intro h1 h2)
          clear h1 h2
          go_wp2_with (fail)
          refine HC.out.mono ?_
          rintro e w2 ⟨rfl, hw2⟩
          have hk2 := (hw2.block w1.heap.size (by have := (Array.getElem?_eq_some_iff.1 HI.out).1; rw [his]; exact this)).trans HIK.out
          have HK2 := Lib.hid hk2
          have HB2 := Lib.hid (HIB.out.trans (hw2.mono HIB.out.size))
          clear hk2 hw2
          go_wp2_with (fail)
          go_roundw
          case rel => exact ⟨i + 1, by omega, Lib.hid (fun j hj => by
            by_cases e : j = i
            · rw [e, HX.out]; exact H12.out
            · exact HN.out j (by omega)), HK2, HB2⟩
          case measure =>
            have : w2.iterPos w1.heap.size = i + 1 := by unfold World.iterPos; rw [HK2.out]
            rw [HP.out, this]; omega
      · obtain ⟨q1, q2, q3, q4, q5, q6⟩ := dec_hi l i hlt (by omega)
        have hnx := fun ty => Lib.run_next_any_at (P := Tryd.prog) wr w1.heap.size ⟨l.toArray⟩ i ty hk hsz'
        generalize Utf8.decode ⟨l.toArray⟩ i = d at *
        obtain ⟨r, m⟩ := d
        simp only at q1 q2 q3 q4 q5 q6 hnx
        have HIK := Lib.hid (Lib.iterAt_heap wr w1.heap.size ⟨l.toArray⟩ i (i + m) hk)
        have HIB := Lib.hid (Lib.below_iterAt HB.out (Nat.le_refl _) ⟨l.toArray⟩ (i + m))
        have his := Lib.iterAt_size wr w1.heap.size ⟨l.toArray⟩ (i + m)
        have HC : Hid (Calls Tryd.prog 85 #[.string ⟨#[47, 0]⟩, .int .i32 (r : Int)] (wr.iterAt w1.heap.size ⟨l.toArray⟩ (i + m)) (Ret (wr.iterAt w1.heap.size ⟨l.toArray⟩ (i + m)) (.int .i64 (-1)))) := by
          by_cases e : r = 65533
          · subst e; exact Lib.hid (IndexRune_fffd _)
          · exact Lib.hid (IndexRune_hi r _ (by omega) (by omega) (by omega) q3)
        have Q6 := Lib.hid q6
        clear q6 q3 hsz hk hb
        go_wp2_with (fail)
        refine HC.out.mono ?_
        rintro e w2 ⟨rfl, hw2⟩
        have hk2 := (hw2.block w1.heap.size (by have := (Array.getElem?_eq_some_iff.1 HI.out).1; rw [his]; exact this)).trans HIK.out
        have HK2 := Lib.hid hk2
        have HB2 := Lib.hid (HIB.out.trans (hw2.mono HIB.out.size))
        clear hk2 hw2
        go_wp2_with (fail)
        go_roundw
        case rel => exact ⟨i + m, by omega, Lib.hid (fun j hj => by
          by_cases e : j < i
          · exact HN.out j e
          · have := Q6.out j (by omega) hj
            exact ⟨fun e => by rw [e] at this; simp at this, fun e => by rw [e] at this; simp at this⟩), HK2, HB2⟩
        case measure =>
          have : w2.iterPos w1.heap.size = i + m := by unfold World.iterPos; rw [HK2.out]
          rw [HP.out, this]; omega
    · have hnx := fun ty => Lib.run_next_end_at (P := Tryd.prog) wr w1.heap.size ⟨l.toArray⟩ i ty hk (by omega)
      have HF := Lib.hid (anyM_none (l := l) (fun j hj => HN.out j (by omega)))
      clear hk hsz
      go_wp2_with (fail)
      go_ret
      exact ⟨-1, rfl, by rw [HF.out]; rfl, HB.out⟩
theorem indexAny_anyM (l : List UInt8) : decide (0 ≤ Lib.indexAny l [47, 0]) = anyM l := by
  induction l with
  | nil => rfl
  | cons b l ih =>
    have hge := Lib.indexAny_ge [47, 0] l
    have e : anyM (b :: l) = (b == 47 || b == 0 || anyM l) := by
      unfold anyM
      simp only [List.contains_cons]
      rw [show ((47 : UInt8) == b) = (b == 47) by rw [Bool.eq_iff_iff]; simp only [beq_iff_eq]; exact eq_comm, show ((0 : UInt8) == b) = (b == 0) by rw [Bool.eq_iff_iff]; simp only [beq_iff_eq]; exact eq_comm]
      cases (b == 47) <;> cases (b == 0) <;> cases l.contains 47 <;> cases l.contains 0 <;> rfl
    rw [e, ← ih]
    have hu : Lib.indexAny (b :: l) [47, 0] = if [47, 0].contains b then 0 else if Lib.indexAny l [47, 0] == -1 then -1 else Lib.indexAny l [47, 0] + 1 := rfl
    rw [hu]
    clear hu
    generalize Lib.indexAny l [47, 0] = x at *
    by_cases h1 : b = 47
    · subst h1; rfl
    · by_cases h2 : b = 0
      · subst h2; rfl
      · have h3 : [47, 0].contains b = false := by simp [h1, h2]
        have h4 : (b == 47) = false := by simpa using h1
        have h5 : (b == 0) = false := by simpa using h2
        rw [h3, h4, h5, Bool.or_self, Bool.false_or, if_neg (by decide)]
        by_cases h6 : x = -1
        · subst h6; rfl
        · rw [if_neg (by simpa using h6), decide_eq_true (by omega), decide_eq_true (by omega)]
theorem IndexAny_any (l : List UInt8) (w : World) (hl : l.length ≤ 4294967280) :
    Calls Tryd.prog 76 #[.string ⟨l.toArray⟩, .string ⟨#[47, 0]⟩] w (IdxOut w l) := by
  by_cases h8 : l.length ≤ 8
  · exact IndexAny_short l w h8
  · have hsz : (ByteArray.mk l.toArray).size = l.length := by simp [ByteArray.size]
    have h116 : (Tryd.prog.info? 74).map (fun i => (i.zero, i.size)) = some (some (.agg (Array.replicate 256 (.bool false))), 256) := by kernel_rfl
    refine (Tryd.strings_IndexAny_long (zero_of_info h116).1 ⟨l.toArray⟩ ⟨#[47, 0]⟩ w (by decide) (by omega) (by omega) (by decide) (fun j b hb => ?_)).mono ?_
    · match j, hb with
      | 0, hb => simp at hb; subst hb; decide
      | 1, hb => simp at hb; subst hb; decide
      | j + 2, hb => simp at hb
    · rintro e w' ⟨rfl, rfl⟩
      exact ⟨_, rfl, indexAny_anyM l, ((Below.refl _ _).alloc (Nat.le_refl _) _).alloc (by simp) _⟩
theorem ContainsAny_any (l : List UInt8) (w : World) (hl : l.length ≤ 4294967280) :
    Calls Tryd.prog 57 #[.string ⟨l.toArray⟩, .string ⟨#[47, 0]⟩] w (Ret w (.bool (anyM l))) := by
  have HC := Lib.hid (IndexAny_any l w hl)
  go_enter Tryd.func57, Tryd.ntmps57
  go_wp2_with (fail)
  refine HC.out.mono ?_
  rintro e w1 ⟨x, rfl, hx, hw⟩
  have HX := Lib.hid hx
  clear hx
  go_wp2_with (fail)
  go_ret
  exact ⟨by rw [← HX.out]; rfl, hw⟩
end Go.Proofs.YtgppfcaghjbjmaaDoor
