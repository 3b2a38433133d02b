/- The document's reader of chapter 3: a number, a text, a flag, what is left. -/
import Derived.Test.YtknoedlelmflhaaCode6
namespace Go.Proofs.Ytknoedlelmflhaa
open Go.RowKit Plain

structure RRd (br : Nat) (st : St) (s : List UInt8) (at' : Nat) (w : World) : Prop where
  row : w.heap[br]? = some (.cells #[.string ⟨s.toArray⟩, .int .i64 (at' : Nat), .int .i64 (st.2 : Nat)] 99 (0, 0))
  le : at' ≤ s.length
  rest : st.1 = s.drop at'
  short : s.length ≤ 140737488355328
def RR (br : Nat) (st : St) (w : World) : Prop := ∃ s at', RRd br st s at' w
/-- The call returned v; the reader stands at st; nothing else that was there at w0 has turned. -/
def RRet (w0 : World) (br : Nat) (st : St) (v : Value) (e : Ending) (w' : World) : Prop := e = .returned v ∧ RR br st w' ∧ w0.grownBy w' (some br)
theorem RR.below {br : Nat} {st : St} {w w' : World} (h : RR br st w) (hb : Below w.heap.size w w') : RR br st w' := by
  obtain ⟨s, a, h⟩ := h
  exact ⟨s, a, (hb.block br (lt_of_heap h.row)).trans h.row, h.le, h.rest, h.short⟩
theorem RR.drewN {br : Nat} {st : St} {w : World} (h : RR br st w) (n : Nat) : RR br st (w.drewN n) := by
  obtain ⟨s, a, h⟩ := h
  exact ⟨s, a, h.row, h.le, h.rest, h.short⟩
theorem RR.grown {br : Nat} {st : St} {w w' : World} {r : Option Nat} (h : RR br st w) (hg : w.grownBy w' r) (h1 : r ≠ some br) : RR br st w' := by
  obtain ⟨s, a, h⟩ := h
  exact ⟨s, a, (hg.block br (lt_of_heap h.row) (fun e => h1 e.symm)).trans h.row, h.le, h.rest, h.short⟩

theorem num_step (acc c k : Nat) (ha : acc < 128 ^ k) (hk : k ≤ 8) : wrap64 ((acc : Int) + wrap64 ((c : Int) % 128 * 128 ^ k)) = ((acc + c % 128 * 128 ^ k : Nat) : Int) ∧ acc + c % 128 * 128 ^ k < 128 ^ (k + 1) := by
  have hp : 128 ^ k ≤ 128 ^ 8 := Nat.pow_le_pow_right (by omega) hk
  have hp8 : (128 : Nat) ^ 8 = 72057594037927936 := by decide
  rw [hp8] at hp
  have hc := Nat.mod_lt c (show 128 > 0 by omega)
  have hm : c % 128 * 128 ^ k ≤ 127 * 128 ^ k := Nat.mul_le_mul_right _ (by omega)
  have e : (c : Int) % 128 * 128 ^ k = ((c % 128 * 128 ^ k : Nat) : Int) := by push_cast; rfl
  rw [e, Nat.pow_succ]
  generalize c % 128 * 128 ^ k = m at *
  generalize 128 ^ k = p at *
  refine ⟨?_, by omega⟩
  unfold wrap64
  omega
/-- where the number at hand ends -/
def nextR (s : List UInt8) (a : Nat) : Nat := if (numR (s.drop a)).2.2 = 0 then s.length - (numR (s.drop a)).2.1.length else 0
theorem num_end {s r : List UInt8} {a v e : Nat} (h : numR (s.drop a) = (v, r, e)) (next : Nat) (x1 x2 x3 : Int) (h1 : x1 = (v : Nat)) (h2 : x2 = (next : Nat)) (h3 : x3 = (e : Nat)) (hr : e = 0 → r = s.drop next ∧ next ≤ s.length) (h0 : e ≠ 0 → next = 0) :
    Ending.returned (.tuple #[.int .i64 x1, .int .i64 x2, .int .i64 x3]) = .returned (.tuple #[.int .i64 ((numR (s.drop a)).1 : Nat), .int .i64 (nextR s a : Nat), .int .i64 ((numR (s.drop a)).2.2 : Nat)]) ∧
      ((numR (s.drop a)).2.2 = 0 → (numR (s.drop a)).2.1 = s.drop (nextR s a) ∧ nextR s a ≤ s.length) ∧ True := by
  have hx : nextR s a = next := by
    unfold nextR
    rw [h]
    by_cases he : e = 0
    · obtain ⟨h4, h5⟩ := hr he
      simp only [he, if_true, h4]
      simp; omega
    · simp only [he, if_false]
      exact (h0 he).symm
  rw [h, hx]
  exact ⟨by rw [h1, h2, h3], hr, trivial⟩
theorem RRd.facts {br a : Nat} {st : St} {s : List UInt8} {w : World} (h : RRd br st s a w) : w.cell? ⟨br, 0, none⟩ = some (.string ⟨s.toArray⟩) ∧ w.cell? ⟨br, 1, none⟩ = some (.int .i64 (a : Nat)) ∧ w.cell? ⟨br, 2, none⟩ = some (.int .i64 (st.2 : Nat)) ∧
    w.frozen? ⟨br, 1, none⟩ = false ∧ w.frozen? ⟨br, 2, none⟩ = false :=
  ⟨cell_of_row w br 0 _ _ _ h.row, cell_of_row w br 1 _ _ _ h.row, cell_of_row w br 2 _ _ _ h.row, by unfold World.frozen?; rw [h.row]; rfl, by unfold World.frozen?; rw [h.row]; rfl⟩
theorem RRd.fail {br a : Nat} {st : St} {s : List UInt8} {w : World} (h : RRd br st s a w) (e : Nat) : RR br (st.1, e) (w.setCell ⟨br, 2, none⟩ (.int .i64 (e : Nat))) :=
  ⟨s, a, by rw [heap_set h.row]; rfl, h.le, h.rest, h.short⟩
theorem RRd.go {br a : Nat} {st : St} {s : List UInt8} {w : World} (h : RRd br st s a w) {b : Nat} (hb : b ≤ s.length) : RR br (s.drop b, st.2) (w.setCell ⟨br, 1, none⟩ (.int .i64 (b : Nat))) :=
  ⟨s, b, by rw [heap_set h.row]; rfl, hb, rfl, h.short⟩
theorem RRd.drewN {br a : Nat} {st : St} {s : List UInt8} {w : World} (h : RRd br st s a w) (n : Nat) : RRd br st s a (w.drewN n) := ⟨h.row, h.le, h.rest, h.short⟩
set_option maxRecDepth 100000 in
set_option maxHeartbeats 1000000 in
theorem RefNumber_any (s : List UInt8) (a : Nat) (w : World) (ha : a ≤ s.length) (hs : s.length ≤ 140737488355328) :
    Calls Try.prog 55 #[.string ⟨s.toArray⟩, .int .i64 (a : Nat)] w fun e w' => e = .returned (.tuple #[.int .i64 ((numR (s.drop a)).1 : Nat), .int .i64 (nextR s a : Nat), .int .i64 ((numR (s.drop a)).2.2 : Nat)]) ∧
      ((numR (s.drop a)).2.2 = 0 → (numR (s.drop a)).2.1 = s.drop (nextR s a) ∧ nextR s a ≤ s.length) ∧ w' = w := by
  go_enter Try.func55, Try.ntmps55
  go_wp2_with (fail)
  go_loopw [7, 8, 9, 10] (fun t7 t8 t9 _ wr => ∃ (k acc : Nat) (u : Int), t7 = .int .i64 (acc : Nat) ∧ t8 = .int .i64 u ∧ t9 = .int .i64 (k : Nat) ∧ a + k ≤ s.length ∧ k ≤ 9 ∧ acc < 128 ^ k ∧ Hid (k ≤ 8 → u = (128 ^ k : Nat)) ∧ Hid (numG k acc (s.drop (a + k)) = numR (s.drop a)) ∧ wr = w) (fun _ _ t9 _ _ => 10 - (intOf t9).toNat)
  case atStart => exact ⟨0, 0, 1, rfl, rfl, rfl, by omega, by omega, by omega, Lib.hid (fun _ => rfl), Lib.hid rfl, rfl⟩
  case round =>
    obtain ⟨k, acc, u, rfl, rfl, rfl, hk, hk9, hacc, HU, HG, rfl⟩ := hrel
    have HA := Lib.hid hacc
    clear hacc
    by_cases h9 : k = 9
    · have hb9 : ((k : Int) == 9) = true := by rw [beq_iff_eq]; omega
      have hg := HG.out
      have he : numR (s.drop a) = (0, [], 31) := by
        rw [← hg, h9]
        cases hd : s.drop (a + 9) with
        | nil => rfl
        | cons c r => simp [numG]
      have HE := Lib.hid he
      clear hg he h9
      go_wp2_with (fail)
      go_ret3
      simp only [Array.getD_eq_getD_getElem?, List.getElem?_toArray, List.getElem?_cons_succ, List.getElem?_cons_zero, Option.getD_some]
      exact num_end HE.out 0 _ _ _ rfl rfl rfl (fun h => by cases h) (fun _ => rfl)
    · have hb9 : ((k : Int) == 9) = false := by rw [beq_eq_false_iff_ne]; omega
      have hw1 : wrap64 ((a : Int) + k) = ((a + k : Nat) : Int) := by unfold wrap64; omega
      by_cases hlt : a + k < s.length
      · have hc : s[a + k].toNat < 256 := s[a + k].toNat_lt
        have hdr : s.drop (a + k) = s[a + k] :: s.drop (a + k + 1) := (List.getElem_cons_drop hlt).symm
        have hg := HG.out
        rw [hdr] at hg
        have HG := Lib.hid hg
        clear hdr hg
        have hu := HU.out (by omega)
        subst hu
        have HST := Lib.hid (num_step acc s[a + k].toNat k HA.out (by omega))
        go_wp2_with (fail)
        · have hg := HG.out
          rw [numG, if_neg h9, if_pos (by omega), if_pos ⟨by omega, by omega⟩] at hg
          go_ret3
          simp only [Array.getD_eq_getD_getElem?, List.getElem?_toArray, List.getElem?_cons_succ, List.getElem?_cons_zero, Option.getD_some]
          exact num_end hg.symm 0 _ _ _ rfl rfl rfl (fun h => by cases h) (fun _ => rfl)
        · have hg := HG.out
          have h0 : s[a + k].toNat = 0 := by omega
          rw [numG, if_neg h9, if_pos (by omega), if_neg (by omega)] at hg
          go_ret3
          simp only [Array.getD_eq_getD_getElem?, List.getElem?_toArray, List.getElem?_cons_succ, List.getElem?_cons_zero, Option.getD_some]
          refine num_end hg.symm (a + k + 1) _ _ _ ?_ (by push_cast; rfl) rfl (fun h => ⟨rfl, by omega⟩) (fun h => absurd rfl h)
          have := HST.out.1
          rw [h0, Nat.zero_mod, Nat.zero_mul] at this
          rw [h0, Nat.zero_mul, ← this]
          rw [show (((0 : Nat) : Int) % 128) = 0 from rfl, Int.zero_mul]
        · have hg := HG.out
          have h128 : s[a + k].toNat < 128 := by omega
          rw [numG, if_neg h9, if_pos h128, if_neg (by omega)] at hg
          go_ret3
          simp only [Array.getD_eq_getD_getElem?, List.getElem?_toArray, List.getElem?_cons_succ, List.getElem?_cons_zero, Option.getD_some]
          refine num_end hg.symm (a + k + 1) _ _ _ ?_ (by push_cast; rfl) rfl (fun h => ⟨rfl, by omega⟩) (fun h => absurd rfl h)
          have := HST.out.1
          rw [Nat.mod_eq_of_lt h128] at this
          exact this
        · have h128 : ¬ s[a + k].toNat < 128 := by omega
          have hg := HG.out
          rw [numG, if_neg h9, if_neg h128] at hg
          have hst := HST.out
          go_roundw
          case rel =>
            refine ⟨k + 1, _, _, by rw [hst.1], rfl, by go_num, by omega, by omega, hst.2, Lib.hid (fun hk8 => ?_), Lib.hid (by rw [show a + (k + 1) = a + k + 1 by omega]; exact hg), trivial⟩
            have hp : 128 ^ k ≤ 128 ^ 7 := Nat.pow_le_pow_right (by omega) (by omega)
            have hp8 : (128 : Nat) ^ 7 = 562949953421312 := by decide
            rw [hp8] at hp
            rw [Nat.pow_succ]
            have e : ((128 : Int) ^ k) = ((128 ^ k : Nat) : Int) := by push_cast; rfl
            rw [e]
            generalize 128 ^ k = p at *
            unfold wrap64
            omega
          case measure => simp [intOf]; omega
      · have hd : s.drop (a + k) = [] := List.drop_eq_nil_of_le (by omega)
        have hg := HG.out
        rw [hd, numG, if_neg (by omega)] at hg
        have HG := Lib.hid hg
        clear hg hd HA HU
        go_wp2_with (fail)
        go_ret3
        simp only [Array.getD_eq_getD_getElem?, List.getElem?_toArray, List.getElem?_cons_succ, List.getElem?_cons_zero, Option.getD_some]
        exact num_end HG.out.symm 0 _ _ _ rfl rfl rfl (fun h => by cases h) (fun _ => rfl)

theorem nextR_fact (S : List UInt8) (a : Nat) (ha : a ≤ S.length) (h : (numR (S.drop a)).2.2 = 0) : (numR (S.drop a)).2.1 = S.drop (nextR S a) ∧ nextR S a ≤ S.length := by
  rcases hn : numR (S.drop a) with ⟨n, rest, e⟩
  rw [hn] at h
  simp only at h
  subst h
  obtain ⟨h1, h2⟩ := numR_back hn
  have hl : S.length - a = (numB n).length + rest.length := by rw [← List.length_drop, h1, List.length_append]
  have hx : nextR S a = a + (numB n).length := by
    unfold nextR
    rw [hn]
    simp only [if_true]
    omega
  rw [hx]
  refine ⟨?_, by omega⟩
  rw [← List.drop_drop, h1, List.drop_left]
set_option maxRecDepth 100000 in
set_option maxHeartbeats 1000000 in
theorem RefRNum_any (br : Nat) (s : List UInt8) (f : Nat) (w : World) (h : RR br (s, f) w) :
    Calls Try.prog 43 #[.pointer (some ⟨br, 0, none⟩)] w (RRet w br (takeR passNum (s, f)).2 (.int .i64 ((takeR passNum (s, f)).1 : Nat))) := by
  obtain ⟨S, a, h⟩ := h
  obtain ⟨c0, c1, c2, g1, g2⟩ := h.facts
  have hrest := h.rest
  simp only at hrest c2
  subst hrest
  by_cases hf : f = 0
  · subst hf
    have hN := fun W => RefNumber_any S a W h.le h.short
    have hfact : (numR (S.drop a)).2.2 = 0 → (numR (S.drop a)).2.1 = S.drop (nextR S a) ∧ nextR S a ≤ S.length := nextR_fact S a h.le
    rcases hn : numR (S.drop a) with ⟨n, rest, e⟩
    rw [hn] at hN hfact
    have hQ : ∀ W, Calls Try.prog 55 #[.string ⟨S.toArray⟩, .int .i64 (a : Nat)] W fun e' w'' => e' = .returned (.tuple #[.int .i64 (n : Nat), .int .i64 (nextR S a : Nat), .int .i64 (e : Nat)]) ∧ w'' = W := fun W => (hN W).mono fun _ _ h => ⟨h.1, h.2.2⟩
    generalize nextR S a = next at *
    have H := Lib.hid h
    have HN := Lib.hid hn
    have HF := Lib.hid hfact
    clear h hn hN hfact
    by_cases he : e = 0
    · subst he
      have htk : takeR passNum (S.drop a, 0) = (n, (rest, 0)) := takeR_ok HN.out rfl
      rw [htk]
      obtain ⟨hf1, hf2⟩ := HF.out rfl
      clear htk
      go_enter Try.func43, Try.ntmps43
      go_wp2_with (fail)
      go_quiet (first | (go_at_call 55; exact Calls.quiet_of_same (hQ _)))
      go_wp2_with (fail)
      go_ret
      exact ⟨rfl, by rw [hf1]; exact (H.out.drewN _).go hf2, gb_set (gb_drewN (gb_refl _ _) _) (.inl rfl) _⟩
    · have htk : takeR passNum (S.drop a, 0) = (0, (S.drop a, e)) := takeR_num HN.out he
      rw [htk]
      have he2 : ((e : Int) != 0) = true := by simpa using he
      clear htk
      go_enter Try.func43, Try.ntmps43
      go_wp2_with (fail)
      go_quiet (first | (go_at_call 55; exact Calls.quiet_of_same (hQ _)))
      go_wp2_with (fail)
      go_ret
      exact ⟨rfl, (H.out.drewN _).fail e, gb_set (gb_drewN (gb_refl _ _) _) (.inl rfl) _⟩
  · have hr : takeR passNum (S.drop a, f) = (0, (S.drop a, f)) := takeR_bad hf
    rw [hr]
    clear hr
    have he2 : ((f : Int) != 0) = true := by simpa using hf
    go_enter Try.func43, Try.ntmps43
    go_wp2_with (fail)
    go_ret
    exact ⟨rfl, ⟨S, a, h⟩, gb_refl _ _⟩

set_option maxRecDepth 100000 in
set_option maxHeartbeats 2000000 in
theorem RefRText_any (br : Nat) (most : Int) (s : List UInt8) (f : Nat) (w : World) (h : RR br (s, f) w) :
    Calls Try.prog 44 #[.pointer (some ⟨br, 0, none⟩), .int .i64 most] w (RRet w br (takeR (passText most) (s, f)).2 (.string ⟨(textR most (s, f)).toArray⟩)) := by
  obtain ⟨S, a, h⟩ := h
  obtain ⟨c0, c1, c2, g1, g2⟩ := h.facts
  have hrest := h.rest
  simp only at hrest c2
  subst hrest
  by_cases hf : f = 0
  · subst hf
    have hN := fun W => RefNumber_any S a W h.le h.short
    have hfact : (numR (S.drop a)).2.2 = 0 → (numR (S.drop a)).2.1 = S.drop (nextR S a) ∧ nextR S a ≤ S.length := nextR_fact S a h.le
    have hshort := h.short
    rcases hn : numR (S.drop a) with ⟨n, rest, e⟩
    rw [hn] at hN hfact
    have hQ : ∀ W, Calls Try.prog 55 #[.string ⟨S.toArray⟩, .int .i64 (a : Nat)] W fun e' w'' => e' = .returned (.tuple #[.int .i64 (n : Nat), .int .i64 (nextR S a : Nat), .int .i64 (e : Nat)]) ∧ w'' = W := fun W => (hN W).mono fun _ _ h => ⟨h.1, h.2.2⟩
    generalize nextR S a = next at *
    have H := Lib.hid h
    have HN := Lib.hid hn
    have HF := Lib.hid hfact
    clear h hn hN hfact
    by_cases he : e = 0
    · subst he
      obtain ⟨hf1, hf2⟩ := HF.out rfl
      simp only at hf1
      subst hf1
      by_cases hm : most < (n : Int)
      · have hp : passText most n (S.drop next) = ([], 32) := by unfold passText; rw [if_pos hm]
        have htk : takeR (passText most) (S.drop a, 0) = (0, (S.drop a, 32)) := takeR_pass HN.out hp (by decide)
        have htx : textR most (S.drop a, 0) = [] := by unfold textR; rw [HN.out]; simp [hp]
        rw [htk, htx]
        clear htk htx hp
        go_enter Try.func44, Try.ntmps44
        go_wp2_with (fail)
        go_quiet (first | (go_at_call 55; exact Calls.quiet_of_same (hQ _)))
        go_wp2_with (fail)
        go_ret
        exact ⟨rfl, (H.out.drewN _).fail 32, gb_set (gb_drewN (gb_refl _ _) _) (.inl rfl) _⟩
      · by_cases hl : S.length - next < n
        · have hp : passText most n (S.drop next) = ([], 30) := by unfold passText; rw [if_neg hm, if_pos (by simpa using hl)]
          have htk : takeR (passText most) (S.drop a, 0) = (0, (S.drop a, 30)) := takeR_pass HN.out hp (by decide)
          have htx : textR most (S.drop a, 0) = [] := by unfold textR; rw [HN.out]; simp [hp]
          have hl2 : (S.length : Int) - (next : Nat) < (n : Nat) := by omega
          have hw : wrap64 ((S.length : Int) - (next : Nat)) = (S.length : Int) - (next : Nat) := by unfold wrap64; omega
          rw [htk, htx]
          clear htk htx hp
          go_enter Try.func44, Try.ntmps44
          go_wp2_with (fail)
          go_quiet (first | (go_at_call 55; exact Calls.quiet_of_same (hQ _)))
          go_wp2_with (fail)
          go_ret
          exact ⟨rfl, (H.out.drewN _).fail 30, gb_set (gb_drewN (gb_refl _ _) _) (.inl rfl) _⟩
        · have hp : passText most n (S.drop next) = ((S.drop next).drop n, 0) := by unfold passText; rw [if_neg hm, if_neg (by simpa using hl)]
          have htk : takeR (passText most) (S.drop a, 0) = (n, ((S.drop next).drop n, 0)) := takeR_ok HN.out hp
          have htx : textR most (S.drop a, 0) = (S.drop next).take n := by unfold textR; rw [HN.out]; simp [hp]
          have hl2 : ¬ (S.length : Int) - (next : Nat) < (n : Nat) := by omega
          have hw : wrap64 ((S.length : Int) - (next : Nat)) = (S.length : Int) - (next : Nat) := by unfold wrap64; omega
          rw [htk, htx]
          clear htk htx hp
          go_enter Try.func44, Try.ntmps44
          go_wp2_with (fail)
          go_quiet (first | (go_at_call 55; exact Calls.quiet_of_same (hQ _)))
          go_wp2_with (fail)
          simp only [Nat.add_sub_cancel_left]
          go_ret
          exact ⟨rfl, by rw [List.drop_drop]; exact (H.out.drewN _).go (b := next + n) (by omega), gb_set (gb_drewN (gb_refl _ _) _) (.inl rfl) _⟩
    · have htk : takeR (passText most) (S.drop a, 0) = (0, (S.drop a, e)) := takeR_num HN.out he
      have htx : textR most (S.drop a, 0) = [] := by unfold textR; rw [HN.out]; simp [he]
      rw [htk, htx]
      have he2 : ((e : Int) != 0) = true := by simpa using he
      have he3 : ((e : Int) == 0) = false := by simpa using he
      clear htk htx
      go_enter Try.func44, Try.ntmps44
      go_wp2_with (fail)
      go_quiet (first | (go_at_call 55; exact Calls.quiet_of_same (hQ _)))
      go_wp2_with (fail)
      go_ret
      exact ⟨rfl, (H.out.drewN _).fail e, gb_set (gb_drewN (gb_refl _ _) _) (.inl rfl) _⟩
  · have hr : takeR (passText most) (S.drop a, f) = (0, (S.drop a, f)) := takeR_bad hf
    have htx : textR most (S.drop a, f) = [] := by simp [textR, hf]
    rw [hr, htx]
    clear hr htx
    have he2 : ((f : Int) != 0) = true := by simpa using hf
    go_enter Try.func44, Try.ntmps44
    go_wp2_with (fail)
    go_ret
    exact ⟨rfl, ⟨S, a, h⟩, gb_refl _ _⟩

set_option maxRecDepth 100000 in
set_option maxHeartbeats 1000000 in
theorem RefRFlag_any (br : Nat) (s : List UInt8) (f : Nat) (w : World) (h : RR br (s, f) w) :
    Calls Try.prog 45 #[.pointer (some ⟨br, 0, none⟩)] w (RRet w br (flagR (s, f)).2 (.bool (flagR (s, f)).1)) := by
  obtain ⟨S, a, h⟩ := h
  obtain ⟨c0, c1, c2, g1, g2⟩ := h.facts
  have hrest := h.rest
  simp only at hrest c2
  subst hrest
  by_cases hf : f = 0
  · subst hf
    unfold flagR
    rw [if_neg (by simp)]
    have hshort := h.short
    by_cases hlt : a < S.length
    · have hdr : S.drop a = S[a] :: S.drop (a + 1) := (List.getElem_cons_drop hlt).symm
      have hle : decide ((S.length : Int) ≤ (a : Nat)) = false := decide_eq_false (by omega)
      have hc := S[a].toNat_lt
      have H := Lib.hid h
      have HD := Lib.hid hdr
      rw [hdr]
      clear h hdr
      by_cases h1 : 1 < S[a].toNat
      · simp only [if_pos h1]
        have h1' : decide ((1 : Int) < (S[a].toNat : Int)) = true := decide_eq_true (by omega)
        go_enter Try.func45, Try.ntmps45
        go_wp2_with (fail)
        go_quiet (fail)
        go_wp2_with (fail)
        go_quiet (fail)
        go_wp2_with (fail)
        go_ret
        exact ⟨rfl, by rw [← HD.out]; exact (H.out.drewN _).fail 31, gb_set (gb_drewN (gb_refl _ _) _) (.inl rfl) _⟩
      · simp only [if_neg h1]
        have h1' : decide ((1 : Int) < (S[a].toNat : Int)) = false := decide_eq_false (by omega)
        have hw : wrap64 ((a : Int) + 1) = ((a + 1 : Nat) : Int) := by unfold wrap64; omega
        go_enter Try.func45, Try.ntmps45
        go_wp2_with (fail)
        go_quiet (fail)
        go_wp2_with (fail)
        go_quiet (fail)
        go_wp2_with (fail)
        go_quiet (fail)
        go_wp2_with (fail)
        go_ret
        refine ⟨?_, ((H.out.drewN _).go (b := a + 1) (by omega)).drewN _, gb_drewN (gb_set (gb_drewN (gb_refl _ _) _) (.inl rfl) _) _⟩
        rw [show (decide (S[a].toNat = 1)) = (((S[a].toNat : Nat) : Int) == 1) from by rw [Bool.eq_iff_iff]; simp; omega]
        rfl
    · have hdr : S.drop a = [] := List.drop_eq_nil_of_le (by omega)
      have hle : decide ((S.length : Int) ≤ (a : Nat)) = true := decide_eq_true (by omega)
      have H := Lib.hid h
      have HD := Lib.hid hdr
      rw [hdr]
      clear h hdr
      go_enter Try.func45, Try.ntmps45
      go_wp2_with (fail)
      go_quiet (fail)
      go_wp2_with (fail)
      go_ret
      exact ⟨rfl, by rw [← HD.out]; exact (H.out.drewN _).fail 30, gb_set (gb_drewN (gb_refl _ _) _) (.inl rfl) _⟩
  · have hr : flagR (S.drop a, f) = (false, (S.drop a, f)) := by simp [flagR, hf]
    rw [hr]
    clear hr
    have he2 : ((f : Int) != 0) = true := by simpa using hf
    go_enter Try.func45, Try.ntmps45
    go_wp2_with (fail)
    go_ret
    exact ⟨rfl, ⟨S, a, h⟩, gb_refl _ _⟩

set_option maxRecDepth 100000 in
set_option maxHeartbeats 1000000 in
theorem RefREnd_any (br : Nat) (s : List UInt8) (f : Nat) (w : World) (h : RR br (s, f) w) : Calls Try.prog 46 #[.pointer (some ⟨br, 0, none⟩)] w (Ret w (.int .i64 (endR (s, f) : Nat))) := by
  obtain ⟨S, a, h⟩ := h
  obtain ⟨c0, c1, c2, g1, g2⟩ := h.facts
  have hrest := h.rest
  simp only at hrest c2
  subst hrest
  have hshort := h.short
  by_cases hf : f = 0
  · subst hf
    by_cases hlt : a < S.length
    · have he : endR (S.drop a, 0) = 32 := by
        unfold endR
        rw [if_pos ⟨rfl, fun e => by have := congrArg List.length e; simp at this; omega⟩]
      have hle : decide ((a : Int) < (S.length : Nat)) = true := decide_eq_true (by omega)
      rw [he]
      clear he h
      go_enter Try.func46, Try.ntmps46
      go_wp2_with (fail)
      go_quiet (fail)
      go_wp2_with (fail)
      go_ret
      exact ⟨rfl, below_drewN (Below.refl _ _) _⟩
    · have he : endR (S.drop a, 0) = 0 := by
        unfold endR
        rw [if_neg (fun e => e.2 (List.drop_eq_nil_of_le (by omega)))]
      have hle : decide ((a : Int) < (S.length : Nat)) = false := decide_eq_false (by omega)
      rw [he]
      clear he h
      go_enter Try.func46, Try.ntmps46
      go_wp2_with (fail)
      go_quiet (fail)
      go_wp2_with (fail)
      go_ret
      exact ⟨rfl, below_drewN (Below.refl _ _) _⟩
  · have he : endR (S.drop a, f) = f := by simp [endR, hf]
    have he2 : ((f : Int) != 0) = true := by simpa using hf
    rw [he]
    clear he h
    go_enter Try.func46, Try.ntmps46
    go_wp2_with (fail)
    go_ret
    exact ⟨rfl, Below.refl _ _⟩
end Go.Proofs.Ytknoedlelmflhaa
