/- hawserref17.lines. -/
import Derived.Test.YtgbiddjkjdggpaaDoorSpanRef
import Derived.Test.YtgbiddjkjdggpaaDoorRefJoin
namespace Go.Proofs.YtgbiddjkjdggpaaDoor
open Go.RowKit Plain

theorem plain_at (A : Option Addr) (c n : Nat) (l : List (List UInt8)) (w : World) (hn : l.length = n) (hr : Reads w 1 A n (strs l)) (hl : n ≤ 4294967296) (hf : l.flatten.length ≤ 4294967296) :
    Calls Tryd.prog 31 #[.slice A n c] w (Ret w (.string ⟨l.flatten.toArray⟩)) := by
  subst hn
  exact plain_any A c l w hr hl hf
theorem span_nat (A B : Option Addr) (ca cb : Nat) (o a : List (List UInt8)) (w : World) (ho : Reads w 1 A o.length (strs o)) (ha : Reads w 1 B a.length (strs a)) (h63 : o.length ≤ 4294967296) (h63' : a.length ≤ 4294967296) :
    Calls Tryd.prog 30 #[.slice A o.length ca, .slice B a.length cb] w (Ret w (.tuple #[.int .i64 (pre o a), .int .i64 ((o.length - suf o a : Nat) : Int), .int .i64 ((a.length - suf o a : Nat) : Int)])) := by
  have h := span_any A B ca cb o a w ho ha h63 h63'
  have hle := suf_le o a
  rw [show ((o.length - suf o a : Nat) : Int) = (o.length : Int) - suf o a by omega, show ((a.length - suf o a : Nat) : Int) = (a.length : Int) - suf o a by omega]
  exact h

set_option maxHeartbeats 4000000 in
theorem lines_ref (o a b : List UInt8) (w : World) (ho : o.length ≤ 65536) (ha : a.length ≤ 65536) (hb : b.length ≤ 65536) :
    Calls Tryd.prog 20 #[.string ⟨o.toArray⟩, .string ⟨a.toArray⟩, .string ⟨b.toArray⟩] w (Ret w (.tuple #[.string ⟨(linesM o a b).1.toArray⟩, .bool (linesM o a b).2])) := by
  by_cases h1 : a = b
  · subst h1
    have hl : linesM o a a = (a, true) := by unfold linesM; rw [if_pos (.inl rfl)]
    rw [hl]
    clear hl
    go_enter Tryd.func20, Tryd.ntmps20
    go_wp2_with (fail)
    go_ret2
    exact ⟨rfl, Below.refl _ _⟩
  have hb1 : (a == b) = false := by simpa using h1
  by_cases h2 : b = o
  · subst h2
    have hl : linesM b a b = (a, true) := by unfold linesM; rw [if_pos (.inr rfl)]
    rw [hl]
    clear hl
    go_enter Tryd.func20, Tryd.ntmps20
    go_wp2_with (fail)
    go_ret2
    exact ⟨rfl, Below.refl _ _⟩
  have hb2 : (b == o) = false := by simpa using h2
  by_cases h3 : a = o
  · subst h3
    have hl : linesM a a b = (b, true) := by unfold linesM; rw [if_neg (by simp [h1, h2]), if_pos rfl]
    rw [hl]
    clear hl
    go_enter Tryd.func20, Tryd.ntmps20
    go_wp2_with (fail)
    go_ret2
    exact ⟨rfl, Below.refl _ _⟩
  have hb3 : (a == o) = false := by simpa using h3
  have hfin0 : linesM o a b = if (chg (linesL o) (linesL b)).t < (chg (linesL o) (linesL a)).f then joinC (linesL o) (chg (linesL o) (linesL b)) (chg (linesL o) (linesL a)) else joinC (linesL o) (chg (linesL o) (linesL a)) (chg (linesL o) (linesL b)) := by
    unfold linesM
    rw [if_neg (by simp [h1, h2]), if_neg h3]
  clear h1 h2 h3
  have hlo := linesL_length o
  have hla := linesL_length a
  have hlb := linesL_length b
  have HLO := Lib.hid (Lines_ref o w (by omega))
  have HLA := Lib.hid (fun W => Lines_ref a W (by omega))
  have HLB := Lib.hid (fun W => Lines_ref b W (by omega))
  have HFX := Lib.hid (linesL_flat o)
  have HFY := Lib.hid (linesL_flat a)
  have HFZ := Lib.hid (linesL_flat b)
  generalize linesL o = X at *
  generalize linesL a = Y at *
  generalize linesL b = Z at *
  have hle1 := suf_le X Y
  have hle2 := suf_le X Z
  have hfin1 : linesM o a b = if X.length - suf X Z < pre X Y then joinC X ⟨pre X Z, X.length - suf X Z, (Z.drop (pre X Z)).take (Z.length - suf X Z - pre X Z)⟩ ⟨pre X Y, X.length - suf X Y, (Y.drop (pre X Y)).take (Y.length - suf X Y - pre X Y)⟩ else joinC X ⟨pre X Y, X.length - suf X Y, (Y.drop (pre X Y)).take (Y.length - suf X Y - pre X Y)⟩ ⟨pre X Z, X.length - suf X Z, (Z.drop (pre X Z)).take (Z.length - suf X Z - pre X Z)⟩ := hfin0
  have HFIN := Lib.hid hfin1
  have HSP1 := Lib.hid (fun (W : World) (A B : Option Addr) (ca cb : Nat) (h1 : Reads W 1 A X.length (strs X)) (h2 : Reads W 1 B Y.length (strs Y)) => span_nat A B ca cb X Y W h1 h2 (by omega) (by omega))
  have HSP2 := Lib.hid (fun (W : World) (A B : Option Addr) (ca cb : Nat) (h1 : Reads W 1 A X.length (strs X)) (h2 : Reads W 1 B Z.length (strs Z)) => span_nat A B ca cb X Z W h1 h2 (by omega) (by omega))
  clear hfin0 hfin1
  obtain ⟨t1, ht1⟩ : ∃ t1, X.length - suf X Y = t1 := ⟨_, rfl⟩
  obtain ⟨n1, hn1⟩ : ∃ n1, Y.length - suf X Y = n1 := ⟨_, rfl⟩
  obtain ⟨t2, ht2⟩ : ∃ t2, X.length - suf X Z = t2 := ⟨_, rfl⟩
  obtain ⟨n2, hn2⟩ : ∃ n2, Z.length - suf X Z = n2 := ⟨_, rfl⟩
  rw [ht1, ht2, hn1, hn2] at HFIN
  rw [ht1, hn1] at HSP1
  rw [ht2, hn2] at HSP2
  generalize pre X Y = f1 at *
  generalize pre X Z = f2 at *
  have k1 : f1 ≤ t1 := by omega
  have k2 : f1 ≤ n1 := by omega
  have k3 : t1 ≤ X.length := by omega
  have k4 : n1 ≤ Y.length := by omega
  have k5 : f2 ≤ t2 := by omega
  have k6 : f2 ≤ n2 := by omega
  have k7 : t2 ≤ X.length := by omega
  have k8 : n2 ≤ Z.length := by omega
  clear ht1 ht2 hn1 hn2 hle1 hle2
  go_enter Tryd.func20, Tryd.ntmps20
  go_wp2_with (fail)
  refine HLO.out.mono ?_
  rintro e w1 ⟨O, co, rfl, hco, hmo, hro, hw1, hO0⟩
  go_wp2_with (fail)
  refine (HLA.out w1).mono ?_
  rintro e w2 ⟨A, ca, rfl, hca, hma, hra, hw2, hA0⟩
  go_wp2_with (fail)
  refine (HLB.out w2).mono ?_
  rintro e w3 ⟨B, cb, rfl, hcb, hmb, hrb, hw3, hB0⟩
  have hro3 := (hro.below hw2).below hw3
  have hra3 := hra.below hw3
  have hB3 := (hw1.trans (hw2.mono hw1.size)).trans (hw3.mono (hw1.trans (hw2.mono hw1.size)).size)
  clear hro hra hw1 hw2 hw3
  go_wp2_with (fail)
  refine (HSP1.out w3 O A co ca hro3 hra3).mono ?_
  rintro e w4 ⟨rfl, hw4⟩
  have hro4 := hro3.below hw4
  have hra4 := hra3.below hw4
  have hrb4 := hrb.below hw4
  have hB4 := hB3.trans (hw4.mono hB3.size)
  clear hro3 hra3 hrb hw4 hB3
  go_wp2_with (fail)
  refine (HSP2.out w4 O B co cb hro4 hrb4).mono ?_
  rintro e w5 ⟨rfl, hw5⟩
  have hro5 := hro4.below hw5
  have hra5 := hra4.below hw5
  have hrb5 := hrb4.below hw5
  have hB5 := hB4.trans (hw5.mono hB4.size)
  clear hro4 hra4 hrb4 hw5 hB4
  by_cases hs : t2 < f1
  · have hd1 : decide ((t2 : Int) < f1) = true := by simp; omega
    by_cases ht : t2 < f1
    · have hd2 : decide ((f1 : Int) ≤ t2) = false := by simp; omega
      have hfin : linesM o a b = (((X.take f2).flatten ++ ((Z.drop f2).take (n2 - f2)).flatten ++ ((X.drop t2).take (f1 - t2)).flatten ++ ((Y.drop f1).take (n1 - f1)).flatten ++ (X.drop t1).flatten), true) := by
        rw [HFIN.out, if_pos hs]
        unfold joinC
        rw [if_pos ht]
        simp only [List.flatten_append]
      have l1 := flat_take_le X f2
      have l2 := Nat.le_trans (flat_take_le (Z.drop f2) (n2 - f2)) (flat_drop_le _ _)
      have l3 := Nat.le_trans (flat_take_le (X.drop t2) (f1 - t2)) (flat_drop_le _ _)
      have l4 := Nat.le_trans (flat_take_le (Y.drop f1) (n1 - f1)) (flat_drop_le _ _)
      have l5 := flat_drop_le X t1
      rw [HFX.out] at l1 l3 l5
      rw [HFZ.out] at l2
      rw [HFY.out] at l4
      obtain ⟨B2, hBB2⟩ : ∃ B2, (if cb = f2 then B else B.map (fun x => x.add f2)) = B2 := ⟨_, rfl⟩
      obtain ⟨B4, hBB4⟩ : ∃ B4, (if ca = f1 then A else A.map (fun x => x.add f1)) = B4 := ⟨_, rfl⟩
      obtain ⟨B5, hBB5⟩ : ∃ B5, (if co = t1 then O else O.map (fun x => x.add t1)) = B5 := ⟨_, rfl⟩
      have P1 := Lib.hid (fun W (h : Below w5.heap.size w5 W) => plain_at O co f2 (X.take f2) W (by simp; omega) (by have h1 := (hro5.take (k := f2) (by omega)).below h; rw [Nat.mul_one, strs_take] at h1; exact h1) (by omega) (by omega))
      have P2 := Lib.hid (fun W (h : Below w5.heap.size w5 W) => plain_at B2 (cb - f2) (n2 - f2) ((Z.drop f2).take (n2 - f2)) W (by simp; omega) (by have h1 := ((hrb5.cut (k := f2) (by omega) B2 (fun h => by rw [Nat.mul_one, ← hBB2, if_neg (by omega)])).take (k := n2 - f2) (by omega)).below h; rw [Nat.mul_one, Nat.mul_one, strs_drop, strs_take] at h1; exact h1) (by omega) (by omega))
      have P3 := Lib.hid (fun W (h : Below w5.heap.size w5 W) => plain_at (O.map (fun x => x.add t2)) (co - t2) (f1 - t2) ((X.drop t2).take (f1 - t2)) W (by simp; omega) (by have h1 := ((hro5.cut (k := t2) (by omega) (O.map (fun x => x.add t2)) (fun h => by rw [Nat.mul_one])).take (k := f1 - t2) (by omega)).below h; rw [Nat.mul_one, Nat.mul_one, strs_drop, strs_take] at h1; exact h1) (by omega) (by omega))
      have P4 := Lib.hid (fun W (h : Below w5.heap.size w5 W) => plain_at B4 (ca - f1) (n1 - f1) ((Y.drop f1).take (n1 - f1)) W (by simp; omega) (by have h1 := ((hra5.cut (k := f1) (by omega) B4 (fun h => by rw [Nat.mul_one, ← hBB4, if_neg (by omega)])).take (k := n1 - f1) (by omega)).below h; rw [Nat.mul_one, Nat.mul_one, strs_drop, strs_take] at h1; exact h1) (by omega) (by omega))
      have P5 := Lib.hid (fun W (h : Below w5.heap.size w5 W) => plain_at B5 (co - t1) (X.length - t1) (X.drop t1) W (by simp) (by have h1 := (hro5.cut (k := t1) (by omega) B5 (fun h => by rw [Nat.mul_one, ← hBB5, if_neg (by omega)])).below h; rw [Nat.mul_one, strs_drop] at h1; exact h1) (by omega) (by omega))
      generalize (X.take f2).flatten = S1 at *
      generalize ((Z.drop f2).take (n2 - f2)).flatten = S2 at *
      generalize ((X.drop t2).take (f1 - t2)).flatten = S3 at *
      generalize ((Y.drop f1).take (n1 - f1)).flatten = S4 at *
      generalize (X.drop t1).flatten = S5 at *
      try simp only [List.append_assoc] at hfin
      have HF := Lib.hid hfin
      have g1 : (0 : Int) ≤ f2 := by omega
      have g2 : (0 : Int) ≤ t2 := by omega
      have g3 : (0 : Int) ≤ f1 := by omega
      have g4 : (0 : Int) ≤ t1 := by omega
      have g5 : (f2 : Int) ≤ co := by omega
      have g6 : (t2 : Int) ≤ f1 := by omega
      have g7 : (f1 : Int) ≤ co := by omega
      have g8 : (t1 : Int) ≤ X.length := by omega
      have g9 : ¬ co = t2 := by omega
      have g10 : (f2 : Int) ≤ n2 := by omega
      have g11 : (n2 : Int) ≤ cb := by omega
      have g12 : (f1 : Int) ≤ n1 := by omega
      have g13 : (n1 : Int) ≤ ca := by omega
      have b1 : S1.length ≤ 65536 := by omega
      have b2 : S2.length ≤ 65536 := by omega
      have b3 : S3.length ≤ 65536 := by omega
      have b4 : S4.length ≤ 65536 := by omega
      have b5 : S5.length ≤ 65536 := by omega
      have HRES := Lib.hid (And.intro hro5 (And.intro hra5 hrb5))
      clear hfin hro5 hra5 hrb5 l1 l2 l3 l4 l5
      go_wp2_with (fail)
      refine wp_region_below (by kernel_rfl) (by kernel_rfl) ?_
      repeat (go_big_quiet_step (fail))
      go_big_quiet_step ((intro hW; exact Ret.quiet hW (P1.out _ hW)))
      repeat (go_big_quiet_step (fail))
      go_big_quiet_step ((intro hW; exact Ret.quiet hW (P2.out _ hW)))
      repeat (go_big_quiet_step (fail))
      go_big_quiet_step ((intro hW; exact Ret.quiet hW (P3.out _ hW)))
      repeat (go_big_quiet_step (fail))
      go_big_quiet_step ((intro hW; exact Ret.quiet hW (P4.out _ hW)))
      repeat (go_big_quiet_step (fail))
      go_big_quiet_step ((intro hW; exact Ret.quiet hW (P5.out _ hW)))
      repeat (go_big_quiet_step (fail))
      refine wpQuiet_nil ?_
      intro W6 hW6
      go_wp2_with (fail)
      go_ret2
      exact ⟨by rw [HF.out]; rfl, hB5.trans (hW6.mono hB5.size)⟩
    · exact absurd hs ht
  · have hd1 : decide ((t2 : Int) < f1) = false := by simp; omega
    by_cases ht : t1 < f2
    · have hd2 : decide ((f2 : Int) ≤ t1) = false := by simp; omega
      have hfin : linesM o a b = (((X.take f1).flatten ++ ((Y.drop f1).take (n1 - f1)).flatten ++ ((X.drop t1).take (f2 - t1)).flatten ++ ((Z.drop f2).take (n2 - f2)).flatten ++ (X.drop t2).flatten), true) := by
        rw [HFIN.out, if_neg hs]
        unfold joinC
        rw [if_pos ht]
        simp only [List.flatten_append]
      have l1 := flat_take_le X f1
      have l2 := Nat.le_trans (flat_take_le (Y.drop f1) (n1 - f1)) (flat_drop_le _ _)
      have l3 := Nat.le_trans (flat_take_le (X.drop t1) (f2 - t1)) (flat_drop_le _ _)
      have l4 := Nat.le_trans (flat_take_le (Z.drop f2) (n2 - f2)) (flat_drop_le _ _)
      have l5 := flat_drop_le X t2
      rw [HFX.out] at l1 l3 l5
      rw [HFY.out] at l2
      rw [HFZ.out] at l4
      obtain ⟨B2, hBB2⟩ : ∃ B2, (if ca = f1 then A else A.map (fun x => x.add f1)) = B2 := ⟨_, rfl⟩
      obtain ⟨B4, hBB4⟩ : ∃ B4, (if cb = f2 then B else B.map (fun x => x.add f2)) = B4 := ⟨_, rfl⟩
      obtain ⟨B5, hBB5⟩ : ∃ B5, (if co = t2 then O else O.map (fun x => x.add t2)) = B5 := ⟨_, rfl⟩
      have P1 := Lib.hid (fun W (h : Below w5.heap.size w5 W) => plain_at O co f1 (X.take f1) W (by simp; omega) (by have h1 := (hro5.take (k := f1) (by omega)).below h; rw [Nat.mul_one, strs_take] at h1; exact h1) (by omega) (by omega))
      have P2 := Lib.hid (fun W (h : Below w5.heap.size w5 W) => plain_at B2 (ca - f1) (n1 - f1) ((Y.drop f1).take (n1 - f1)) W (by simp; omega) (by have h1 := ((hra5.cut (k := f1) (by omega) B2 (fun h => by rw [Nat.mul_one, ← hBB2, if_neg (by omega)])).take (k := n1 - f1) (by omega)).below h; rw [Nat.mul_one, Nat.mul_one, strs_drop, strs_take] at h1; exact h1) (by omega) (by omega))
      have P3 := Lib.hid (fun W (h : Below w5.heap.size w5 W) => plain_at (O.map (fun x => x.add t1)) (co - t1) (f2 - t1) ((X.drop t1).take (f2 - t1)) W (by simp; omega) (by have h1 := ((hro5.cut (k := t1) (by omega) (O.map (fun x => x.add t1)) (fun h => by rw [Nat.mul_one])).take (k := f2 - t1) (by omega)).below h; rw [Nat.mul_one, Nat.mul_one, strs_drop, strs_take] at h1; exact h1) (by omega) (by omega))
      have P4 := Lib.hid (fun W (h : Below w5.heap.size w5 W) => plain_at B4 (cb - f2) (n2 - f2) ((Z.drop f2).take (n2 - f2)) W (by simp; omega) (by have h1 := ((hrb5.cut (k := f2) (by omega) B4 (fun h => by rw [Nat.mul_one, ← hBB4, if_neg (by omega)])).take (k := n2 - f2) (by omega)).below h; rw [Nat.mul_one, Nat.mul_one, strs_drop, strs_take] at h1; exact h1) (by omega) (by omega))
      have P5 := Lib.hid (fun W (h : Below w5.heap.size w5 W) => plain_at B5 (co - t2) (X.length - t2) (X.drop t2) W (by simp) (by have h1 := (hro5.cut (k := t2) (by omega) B5 (fun h => by rw [Nat.mul_one, ← hBB5, if_neg (by omega)])).below h; rw [Nat.mul_one, strs_drop] at h1; exact h1) (by omega) (by omega))
      generalize (X.take f1).flatten = S1 at *
      generalize ((Y.drop f1).take (n1 - f1)).flatten = S2 at *
      generalize ((X.drop t1).take (f2 - t1)).flatten = S3 at *
      generalize ((Z.drop f2).take (n2 - f2)).flatten = S4 at *
      generalize (X.drop t2).flatten = S5 at *
      try simp only [List.append_assoc] at hfin
      have HF := Lib.hid hfin
      have g1 : (0 : Int) ≤ f1 := by omega
      have g2 : (0 : Int) ≤ t1 := by omega
      have g3 : (0 : Int) ≤ f2 := by omega
      have g4 : (0 : Int) ≤ t2 := by omega
      have g5 : (f1 : Int) ≤ co := by omega
      have g6 : (t1 : Int) ≤ f2 := by omega
      have g7 : (f2 : Int) ≤ co := by omega
      have g8 : (t2 : Int) ≤ X.length := by omega
      have g9 : ¬ co = t1 := by omega
      have g10 : (f1 : Int) ≤ n1 := by omega
      have g11 : (n1 : Int) ≤ ca := by omega
      have g12 : (f2 : Int) ≤ n2 := by omega
      have g13 : (n2 : Int) ≤ cb := by omega
      have b1 : S1.length ≤ 65536 := by omega
      have b2 : S2.length ≤ 65536 := by omega
      have b3 : S3.length ≤ 65536 := by omega
      have b4 : S4.length ≤ 65536 := by omega
      have b5 : S5.length ≤ 65536 := by omega
      have HRES := Lib.hid (And.intro hro5 (And.intro hra5 hrb5))
      clear hfin hro5 hra5 hrb5 l1 l2 l3 l4 l5
      go_wp2_with (fail)
      refine wp_region_below (by kernel_rfl) (by kernel_rfl) ?_
      repeat (go_big_quiet_step (fail))
      go_big_quiet_step ((intro hW; exact Ret.quiet hW (P1.out _ hW)))
      repeat (go_big_quiet_step (fail))
      go_big_quiet_step ((intro hW; exact Ret.quiet hW (P2.out _ hW)))
      repeat (go_big_quiet_step (fail))
      go_big_quiet_step ((intro hW; exact Ret.quiet hW (P3.out _ hW)))
      repeat (go_big_quiet_step (fail))
      go_big_quiet_step ((intro hW; exact Ret.quiet hW (P4.out _ hW)))
      repeat (go_big_quiet_step (fail))
      go_big_quiet_step ((intro hW; exact Ret.quiet hW (P5.out _ hW)))
      repeat (go_big_quiet_step (fail))
      refine wpQuiet_nil ?_
      intro W6 hW6
      go_wp2_with (fail)
      go_ret2
      exact ⟨by rw [HF.out]; rfl, hB5.trans (hW6.mono hB5.size)⟩
    · have hd2 : decide ((f2 : Int) ≤ t1) = true := by simp; omega
      have hfin : linesM o a b = ([], false) := by
        rw [HFIN.out, if_neg hs]
        unfold joinC
        rw [if_neg ht]
      have HF := Lib.hid hfin
      clear hfin hro5 hra5 hrb5
      go_wp2_with (fail)
      go_ret2
      exact ⟨by rw [HF.out]; rfl, hB5⟩
end Go.Proofs.YtgbiddjkjdggpaaDoor
