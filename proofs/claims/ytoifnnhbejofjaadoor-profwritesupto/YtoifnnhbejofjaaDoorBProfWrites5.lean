/- Texts joined: Grow, Join, ProfW3. -/
import Derived.Test.YtoifnnhbejofjaaDoorBProfWrites4
import Derived.Test.YtoifnnhbejofjaaDoorBProfBaseA1
import Derived.Shelf.Strings.Builder2
import Derived.RegionTactic
import Derived.Lib.Join
import Derived.Test.YtoifnnhbejofjaaDoorBProfBaseA8
set_option linter.unusedSimpArgs false
set_option linter.unusedVariables false

/- strings.Builder: room is made in a new builder. -/
section
namespace Go.Proofs.YtoifnnhbejofjaaDoor
open Go.RowKit

theorem cellsByte : Tryd.prog.cellsOf 5 = 1 := by kernel_rfl
theorem sizeByteN : ∃ i, Tryd.prog.info? 5 = some i ∧ i.size = 1 := by
  obtain ⟨i0, hi, hz0, hz1, hz2⟩ := info_parts info_byte
  exact ⟨i0, hi, hz1⟩

set_option maxHeartbeats 2000000 in
set_option maxRecDepth 100000 in
theorem grow_fresh (B b n : Nat) (w : World) (hB : B ≤ b) (hbk : w.heap[b]? = some (.cells #[.pointer (some ⟨b, 0, none⟩), .slice none 0 0] 58 (0, 0))) (hBw : B ≤ w.heap.size) (hn : n ≤ 281474976710656) :
    Calls Tryd.prog 55 #[.pointer (some ⟨b, 0, none⟩), .int .i64 n] w fun e w' => e = .returned (.tuple #[]) ∧ (Lib.BuilderAt 58 5 B b (.pointer (some ⟨b, 0, none⟩)) [] w' ∧ Below B w w') := by
  obtain ⟨cs, hrun, hle, hmax⟩ := Lib.run_makeNoZero (P := Tryd.prog) w.drew #[3] 56 5 Tryd.underlying56 n hn
  have hw : IntKind.i64.wrap (IntKind.i64.wrap 0 + (n : Int)) = n := by
    rw [IntKind.wrap_i64, IntKind.wrap_i64]
    omega
  have hcall : (callFunc 75 #[.int .i64 (IntKind.i64.wrap (IntKind.i64.wrap 0 + (n : Int)))]).run Tryd.prog w.drew = .ok (.value (.slice (some ⟨w.drew.heap.size, 0, none⟩) n cs.size)) (w.drew.drew.drew.alloc (.cells cs 5)) := by
    rw [hw, run_callFunc_extern Tryd.func75 (by kernel_rfl) (by kernel_rfl) (by kernel_rfl) (e := Extern.BytealgMakeNoZero.makeNoZero #[3] #[56]) (by kernel_rfl), hrun]
    rfl
  have hlt : b < w.heap.size := by
    rcases Nat.lt_or_ge b w.heap.size with h' | h'
    · exact h'
    · simp [Array.getElem?_eq_none h'] at hbk
  have c1 : w.drew.cell? ⟨b, 1, none⟩ = some (.slice none 0 0) := by
    have : w.drew.heap[b]? = _ := hbk
    rw [Lib.cell_of_heap this]; rfl
  have c2 : (w.alloc (.cells cs 5)).cell? ⟨b, 1, none⟩ = some (.slice none 0 0) := by
    have : (w.alloc (.cells cs 5)).heap[b]? = _ := (Lib.alloc_old w _ b hlt).trans hbk
    rw [Lib.cell_of_heap this]; rfl
  have f2 : (w.alloc (.cells cs 5)).frozen? ⟨b, 1, none⟩ = false :=
    Lib.frozen_of_heap ((Lib.alloc_old w _ b hlt).trans hbk) 1
  have hcopy : ∀ W : World, (Builtin.copy_ #[56, 56] 3 #[.slice (some ⟨w.heap.size, 0, none⟩) 0 cs.size, .slice none 0 0]).run Tryd.prog W = .ok (goInt 0) W :=
    fun W => run_copy_none W 56 56 3 5 _ _ 0 cs.size 0 0 Tryd.underlying56 (by kernel_rfl) rfl
  clear hw
  go_enter Tryd.func55, Tryd.ntmps55
  go_wp2_with (fail)
  have hfin := Lib.grown_fresh (T := 58) (e := 5) (cs := cs) hB hbk hBw (hmax (by unfold maxLen; omega)) (by decide)
  rw [World.setCell_alloc_past _ _ _ _ hlt] at hfin
  go_region
  all_goals (go_wp2; go_end0; exact ⟨rfl, hfin⟩)

set_option maxHeartbeats 2000000 in
set_option maxRecDepth 100000 in
theorem Grow_fresh (B b n : Nat) (w : World) (hB : B ≤ b) (hbk : w.heap[b]? = some (.cells #[.pointer none, .slice none 0 0] 58 (0, 0))) (hBw : B ≤ w.heap.size) (hn : n ≤ 281474976710656) :
    Calls Tryd.prog 40 #[.pointer (some ⟨b, 0, none⟩), .int .i64 n] w fun e w' => e = .returned (.tuple #[]) ∧ (Lib.BuilderAt 58 5 B b (.pointer (some ⟨b, 0, none⟩)) [] w' ∧ Below B w w') := by
  have hbk1 : (w.setCell ⟨b, 0, none⟩ (.pointer (some ⟨b, 0, none⟩))).heap[b]? = some (.cells #[.pointer (some ⟨b, 0, none⟩), .slice none 0 0] 58 (0, 0)) := by
    simp [World.setCell, Array.getElem?_modify, hbk]
  have c1 : (w.setCell ⟨b, 0, none⟩ (.pointer (some ⟨b, 0, none⟩))).cell? ⟨b, 1, none⟩ = some (.slice none 0 0) := by rw [Lib.cell_of_heap hbk1]; rfl
  have hb1 : Below B w (w.setCell ⟨b, 0, none⟩ (.pointer (some ⟨b, 0, none⟩))) := (Below.refl B w).setCell (p := ⟨b, 0, none⟩) hB _
  go_enter Tryd.func40, Tryd.ntmps40
  have hU : Lib.BuilderAt 58 5 B b (.pointer (some ⟨b, 0, none⟩)) [] (w.setCell ⟨b, 0, none⟩ (.pointer (some ⟨b, 0, none⟩))) := ⟨hB, .slice none 0 0, hbk1, World.ownsRow_nil _ _ _ _, by simp [Value.ownBlock]⟩
  have c1' : (w.setCell ⟨b, 0, none⟩ (.pointer (some ⟨b, 0, none⟩))).drew.cell? ⟨b, 1, none⟩ = some (.slice none 0 0) := c1
  go_wp2_with (go_at_call 39; refine (copyCheck_fresh b w (by rw [Lib.cell_of_heap hbk]; rfl) (by simp [World.shape?, hbk]) (Lib.frozen_of_heap hbk 0)).mono ?_; rintro e w' ⟨rfl, rfl⟩)
  go_region
  all_goals go_wp2_with (go_at_call 55; refine (grow_fresh B b n (w.setCell ⟨b, 0, none⟩ (.pointer (some ⟨b, 0, none⟩))).drew hB hbk1 (by simpa [World.setCell, World.drew, -World.drew_eq] using hBw) hn).mono ?_; rintro e w' ⟨rfl, h1, h2⟩)
  all_goals first
    | (go_end0; exact ⟨rfl, h1, hb1.drew.trans h2⟩)
    | (go_end0; exact ⟨rfl, hU.drew, hb1.drew⟩)
end Go.Proofs.YtoifnnhbejofjaaDoor
end

/- strings.Join: texts one behind the other, a separator between them. -/
section
namespace Go.Proofs.YtoifnnhbejofjaaDoor
open Go.RowKit

theorem add_zero' (a : Addr) : a.add 0 = a := by simp [Addr.add]
theorem Join_none (A : Option Addr) (c : Nat) (sep : List UInt8) (w : World) :
    Calls Tryd.prog 19 #[.slice A 0 c, .string ⟨sep.toArray⟩] w (Ret w (.string ⟨#[]⟩)) := by
  go_enter Tryd.func19, Tryd.ntmps19
  go_wp2_with (fail)
  go_ret
  exact ⟨rfl, Below.refl _ _⟩
theorem Join_one (a : Addr) (c : Nat) (x sep : List UInt8) (w : World) (hc : w.cell? a = some (.string ⟨x.toArray⟩)) :
    Calls Tryd.prog 19 #[.slice (some a) 1 c, .string ⟨sep.toArray⟩] w (Ret w (.string ⟨x.toArray⟩)) := by
  go_enter Tryd.func19, Tryd.ntmps19
  go_wp2_with (fail)
  go_ret
  exact ⟨rfl, Below.refl _ _⟩

set_option maxHeartbeats 4000000 in
set_option maxRecDepth 100000 in
theorem Join_many (ad : Addr) (c : Nat) (x0 : List UInt8) (r : List (List UInt8)) (sep : List UInt8) (w : World) (hl : Reads w 1 (some ad) (r.length + 1) (strs (x0 :: r)))
    (h2 : 1 ≤ r.length) (hN : r.length + 1 ≤ 140737488355328) (hcap : r.length + 1 ≤ c) (hc63 : c ≤ 9223372036854775807) (hlen : (Lib.join (x0 :: r) sep).length ≤ 140737488355328) :
    Calls Tryd.prog 19 #[.slice (some ad) (r.length + 1 : Nat) c, .string ⟨sep.toArray⟩] w (Ret w (.string ⟨(Lib.join (x0 :: r) sep).toArray⟩)) := by
  have hcell : ∀ W, Below w.heap.size w W → ∀ k, (h : k < r.length + 1) → W.cell? (ad.add k) = some (.string ⟨((x0 :: r)[k]'(by simpa using h)).toArray⟩) := by
    intro W hW k hk
    obtain ⟨ad', he, hcc⟩ := Reads.str_at (l := x0 :: r) (A := some ad) (k := k) (hl.below hW) (by simpa using hk)
    injection he with he
    subst he
    exact hcc
  have HC := Lib.hid hcell
  clear hcell
  have hjl := hlen
  rw [Lib.join_length] at hjl
  generalize hM : sep.length * r.length = M at hjl
  have hcast : ((r.length + 1 : Nat) : Int) - 1 = (r.length : Int) := by omega
  have hlt : sep.length < 9223372036854775807 / r.length := by
    have : sep.length + 1 ≤ 9223372036854775807 / r.length := by
      rw [Nat.le_div_iff_mul_le (by omega), Nat.add_mul, hM]
      omega
    omega
  have hdv : ¬ (9223372036854775807 / (r.length : Int) ≤ (sep.length : Int)) := by
    have e : (9223372036854775807 : Int) / (r.length : Int) = ((9223372036854775807 / r.length : Nat) : Int) := IntWalk.up_div (x := 9223372036854775807) rfl rfl
    rw [e]
    generalize 9223372036854775807 / r.length = q at hlt
    omega
  have hprod : wrap64 ((sep.length : Int) * (r.length : Int)) = (M : Int) := by
    have e : (sep.length : Int) * (r.length : Int) = ((sep.length * r.length : Nat) : Int) := IntWalk.up_mul rfl rfl
    rw [e, hM]
    exact IntWalk.wrap64_in _ ⟨by omega, by omega⟩
  have hM0 : sep.length = 0 → M = 0 := fun h => by rw [← hM, h, Nat.zero_mul]
  clear hlt hcast
  have hne0 : (((r.length + 1 : Nat) : Int) == 0) = false := beq_eq_false_iff_ne.2 (by omega)
  have hne1 : (((r.length + 1 : Nat) : Int) == 1) = false := beq_eq_false_iff_ne.2 (by omega)
  have HM := Lib.hid hM
  have Hlen := Lib.hid hlen
  clear hlen hM hl
  go_enter Tryd.func19, Tryd.ntmps19
  go_wp2_with fail
  all_goals (
    go_loop [5, 41] (fun n i => ∃ k : Nat, k ≤ r.length + 1 ∧ i = .int .i64 k ∧ n = .int .i64 ((M + Lib.lens ((x0 :: r).take k) : Nat) : Int)) (fun _ i => r.length + 1 - (intOf i).toNat)
    case atStart => exact ⟨0, Nat.zero_le _, rfl, by first | (simp [Lib.lens]; done) | (have := hM0 (by omega); simp [Lib.lens, this])⟩
    case round =>
      obtain ⟨k, hk, rfl, rfl⟩ := hrel
      by_cases hkn : k < r.length + 1
      · have hc := HC.out w (Below.refl _ _) k hkn
        have hstep := Lib.lens_take_succ (x0 :: r) k ((x0 :: r)[k]'(by simpa using hkn)) (List.getElem?_eq_getElem _)
        have hbound : Lib.lens ((x0 :: r).take (k + 1)) ≤ Lib.lens (x0 :: r) := Lib.lens_take_le _ _
        generalize hA1 : Lib.lens ((x0 :: r).take (k + 1)) = A1 at hstep hbound
        generalize Lib.lens ((x0 :: r).take k) = A0 at hstep
        generalize (x0 :: r)[k]'(by simpa using hkn) = x at hc hstep
        have HA1 := Lib.hid hA1
        clear hA1
        go_wp2_with (fail)
        exact ⟨⟨k + 1, by omega, by go_num, by rw [HA1.out]; refine congrArg _ ?_; omega⟩, by simp [intOf]; omega⟩
      · have hke : k = r.length + 1 := by omega
        subst hke
        have hall : (x0 :: r).take (r.length + 1) = x0 :: r := List.take_of_length_le (by simp)
        rw [hall]
        generalize hT : Lib.lens (x0 :: r) = T at hjl
        have HT := Lib.hid hT
        clear hT hall
        go_wp2_with (fail)
        have hMT : ((M : Int) + (T : Int)) = ((M + T : Nat) : Int) := by omega
        rw [hMT]
        refine (Grow_fresh w.heap.size w.heap.size (M + T) _ (Nat.le_refl _) (heap_alloc_new w _) (by simp) (by omega)).mono ?_
        rintro e w1 ⟨rfl, h1, hb1⟩
        have hb1' : Below w.heap.size w w1 := ((Below.refl w.heap.size w).alloc (Nat.le_refl _) _).trans hb1
        have hc0 := HC.out w1 hb1' 0 (by omega)
        simp only [List.getElem_cons_zero, add_zero'] at hc0
        have hH1 : Lib.IsBuilderF 58 5 w.heap.size w.heap.size (Lib.byteCells []) w1 := Lib.IsBuilderF.of (Or.inr h1)
        have H1 := Lib.hid hH1
        have Hb1 := Lib.hid hb1'
        have hBw1 : w.heap.size ≤ w1.heap.size := hb1'.size
        clear h1 hb1 hb1' hMT hH1
        have hwhole : Lib.join (x0 :: r) sep = x0 ++ Lib.joinTail sep r := Lib.join_cons _ _ _
        have hCle : ∀ k, (x0 ++ Lib.joinTail sep (r.take k)).length ≤ 140737488355328 := fun k => by
          have h1 := Hlen.out
          rw [hwhole, List.length_append] at h1
          have h2 := Lib.joinTail_take_le sep r k
          rw [List.length_append]
          omega
        have HCle := Lib.hid hCle
        have Hwhole := Lib.hid hwhole
        clear hCle hwhole
        go_wp2_with fail
        refine (WriteString_list w.heap.size w.heap.size [] x0 w1 H1.out (by have := HCle.out 0; simp [Lib.joinTail] at this ⊢; omega) hBw1).mono ?_
        rintro e w2 ⟨rfl, h2', hb2, _⟩
        have hstart : ([] : List UInt8) ++ x0 = x0 ++ Lib.joinTail sep (r.take 0) := by simp [Lib.joinTail]
        rw [hstart] at h2'
        have H2 := Lib.hid h2'
        have Hb2 := Lib.hid (Hb1.out.trans hb2)
        clear h2' hb2 hstart
        go_wp2_with fail
        go_loopw [10, 65] (fun _ i wr => ∃ k : Nat, k ≤ r.length ∧ i = .int .i64 k ∧ Hid (Lib.IsBuilderF 58 5 w.heap.size w.heap.size (Lib.byteCells (x0 ++ Lib.joinTail sep (r.take k))) wr) ∧ Hid (Below w.heap.size w wr)) (fun _ i _ => r.length - (intOf i).toNat)
        case atStart => exact ⟨0, Nat.zero_le _, rfl, H2, Hb2⟩
        case round =>
          obtain ⟨k, hk', rfl, HB, HW⟩ := hrel
          by_cases hkr : k < r.length
          · have hcy := HC.out wr HW.out (k + 1) (by omega)
            simp only [List.getElem_cons_succ] at hcy
            have hcz : wr.cell? ⟨ad.block, ad.off + 1 + k, none⟩ = some (.string ⟨(r[k]).toArray⟩) := by
              rw [← hcy]; congr 1; simp [Addr.add]; omega
            have hBw : w.heap.size ≤ wr.heap.size := HW.out.size
            have hnext : x0 ++ Lib.joinTail sep (r.take k) ++ sep ++ r[k] = x0 ++ Lib.joinTail sep (r.take (k + 1)) := by
              rw [Lib.joinTail_take_succ sep r k (r[k]) (List.getElem?_eq_getElem hkr)]; simp
            have hl1 := HCle.out (k + 1)
            rw [← hnext] at hl1
            simp only [List.length_append] at hl1
            generalize r[k] = y at *
            generalize hJ : (x0 ++ Lib.joinTail sep (r.take k)) = J at *
            have hl2 : J.length + sep.length + y.length ≤ 140737488355328 := by rw [← hJ, List.length_append]; omega
            have Hn := Lib.hid hnext
            clear hnext hcy hJ hl1
            go_wp2_with fail
            refine (WriteString_list w.heap.size w.heap.size J sep wr HB.out (by omega) hBw).mono ?_
            rintro e w3 ⟨rfl, h3, hb3, _⟩
            have hBw3 : w.heap.size ≤ w3.heap.size := Nat.le_trans hBw hb3.size
            have H3 := Lib.hid h3
            have Hb3 := Lib.hid hb3
            clear h3 hb3
            go_wp2_with fail
            refine (WriteString_list w.heap.size w.heap.size _ y w3 H3.out (by rw [List.length_append]; omega) hBw3).mono ?_
            rintro e w4 ⟨rfl, h4, hb4, _⟩
            rw [Hn.out] at h4
            have H4 := Lib.hid h4
            have Hb4 := Lib.hid ((HW.out.trans Hb3.out).trans hb4)
            clear h4 hb4
            go_wp2
            exact ⟨⟨k + 1, by omega, by go_num, H4, Hb4⟩, by simp [intOf]; omega⟩
          · have hke : k = r.length := by omega
            subst hke
            have hB' := HB.out
            rw [List.take_of_length_le (Nat.le_refl _), ← Hwhole.out] at hB'
            have HB2 := Lib.hid hB'
            have hBw : w.heap.size ≤ wr.heap.size := HW.out.size
            clear hB'
            go_wp2_with fail
            refine (Tryd.Builder_String_any_f _ _ _ _ HB2.out hBw).mono ?_
            rintro e w5 ⟨rfl, _, hb5⟩
            have Hb5 := Lib.hid (HW.out.trans hb5)
            clear hb5
            go_wp2
            go_ret
            exact ⟨rfl, Hb5.out⟩)

/-- strings.Join of the texts l. -/
theorem strJoin_any (A : Option Addr) (c : Nat) (l : List (List UInt8)) (sep : List UInt8) (w : World) (hl : Reads w 1 A l.length (strs l)) (hN : l.length ≤ 140737488355328) (hcap : l.length ≤ c) (hc63 : c ≤ 9223372036854775807)
    (hlen : (Lib.join l sep).length ≤ 140737488355328) :
    Calls Tryd.prog 19 #[.slice A l.length c, .string ⟨sep.toArray⟩] w (Ret w (.string ⟨(Lib.join l sep).toArray⟩)) := by
  match l, hl, hN, hcap, hlen with
  | [], _, _, _, _ => exact Join_none A c sep w
  | [x], hl, _, _, _ =>
    obtain ⟨ad, rfl, hc⟩ := hl.str_at (l := [x]) (k := 0) (by simp)
    rw [Lib.join_one]
    rw [add_zero'] at hc
    exact Join_one ad c x sep w hc
  | x :: y :: r, hl, hN, hcap, hlen =>
    obtain ⟨ad, rfl, hc⟩ := hl.str_at (l := x :: y :: r) (k := 0) (by simp)
    exact Join_many ad c x (y :: r) sep w hl (by simp) hN hcap hc63 hlen
end Go.Proofs.YtoifnnhbejofjaaDoor
end

/- prof.plain, and Print's closure say. -/
section
set_option linter.unusedVariables false
namespace Go.Proofs.YtoifnnhbejofjaaDoor
open Go.RowKit Plain

theorem index_hasP (l : List UInt8) (c : UInt8) : decide (0 ≤ Lib.indexByte l c) = l.contains c := by
  induction l with
  | nil => rfl
  | cons x r ih =>
    have hge := Lib.indexByte_ge r c
    unfold Lib.indexByte
    by_cases h : x = c
    · subst h; simp
    · rw [List.contains_cons, ← ih]
      have hb : (c == x) = false := by simpa using fun e => h e.symm
      rw [hb, Bool.false_or]
      have hx : (x == c) = false := by simpa using h
      rw [hx]
      simp only [Bool.false_eq_true, if_false]
      by_cases e : Lib.indexByte r c = -1
      · rw [e]; rfl
      · have he : (Lib.indexByte r c == -1) = false := by simpa using e
        rw [he]
        simp only [Bool.false_eq_true, if_false]
        rw [Bool.eq_iff_iff, decide_eq_true_eq, decide_eq_true_eq]
        omega

set_option maxHeartbeats 4000000 in
set_option maxRecDepth 100000 in
theorem pplain_any (s : List UInt8) (w : World) (hT : Tabs w) (hs : s.length ≤ 4294967280) : Calls Tryd.prog 21 #[.string ⟨s.toArray⟩] w (Ret w (.bool (plainS s))) := by
  have HC := Lib.hid (Check_all s w hT)
  have HTR := Lib.hid (fun W => TrimP_any s W hs)
  have HCN := Lib.hid (fun W => (show decide (0 ≤ Lib.indexByte (ByteArray.mk s.toArray).data.toList 10) = s.contains 10 from index_hasP s 10) ▸ Tryd.strings_Contains_one ⟨s.toArray⟩ 10 W)
  have hps : plainS s = (decide ((checkP 400 s).2 = 0) && !s.contains 10 && decide (trimP s = s)) := rfl
  generalize plainS s = out at *
  generalize (checkP 400 s).1 = c1 at *
  generalize (checkP 400 s).2 = c2 at *
  generalize s.contains 10 = ct at *
  obtain ⟨ts, hts⟩ : ∃ t, trimP s = t := ⟨_, rfl⟩
  rw [hts] at HTR hps
  have HP := Lib.hid hps
  clear hps hts hT
  go_enter Tryd.func21, Tryd.ntmps21
  go_wp2_with (fail)
  refine HC.out.mono ?_
  rintro e w1 ⟨rfl, hw1⟩
  have HB1 := Lib.hid hw1
  clear hw1
  by_cases hc : c2 = 0
  · subst hc
    cases ct with
    | true =>
      have HO : Hid (out = false) := Lib.hid (by rw [HP.out]; simp)
      clear HP
      go_wp2_with (fail)
      refine (HCN.out _).mono ?_
      rintro e w2 ⟨rfl, rfl⟩
      go_wp2_with (fail)
      go_ret
      exact ⟨by rw [HO.out]; rfl, HB1.out⟩
    | false =>
      have HO : Hid (out = (ts == s)) := Lib.hid (by rw [HP.out, show decide (ts = s) = (ts == s) by rw [Bool.eq_iff_iff, decide_eq_true_eq, beq_iff_eq]]; simp)
      clear HP
      go_wp2_with (fail)
      refine (HCN.out _).mono ?_
      rintro e w2 ⟨rfl, rfl⟩
      go_wp2_with (fail)
      refine (HTR.out _).mono ?_
      rintro e w3 ⟨rfl, hw3⟩
      have HB3 := Lib.hid (HB1.out.trans (hw3.mono HB1.out.size))
      clear hw3
      go_wp2_with (fail)
      go_ret
      exact ⟨by rw [HO.out]; rfl, HB3.out⟩
  · have HO : Hid (out = false) := Lib.hid (by rw [HP.out]; simp [hc])
    have g2 : ((c2 : Int) == 0) = false := by rw [beq_eq_false_iff_ne]; omega
    clear HP hc
    go_wp2_with (fail)
    go_ret
    exact ⟨by rw [HO.out]; rfl, HB1.out⟩

/-- What a call of say leaves alone: all but two blocks and the rows of bytes. -/
def Kept2 (bo bb : Nat) (w w' : World) : Prop := ∀ k o, w.heap[k]? = some o → k ≠ bo → k ≠ bb → (∀ c fz, o ≠ .cells c 5 fz) → w'.heap[k]? = some o
theorem Kept2.refl (bo bb : Nat) (w : World) : Kept2 bo bb w w := fun _ _ h _ _ _ => h
theorem Kept2.trans {bo bb : Nat} {a c d : World} (h : Kept2 bo bb a c) (k : Kept2 bo bb c d) : Kept2 bo bb a d := fun i o hi h1 h2 ho => k i o (h i o hi h1 h2 ho) h1 h2 ho
theorem Kept2.of_below {bo bb : Nat} {a c : World} (h : Below a.heap.size a c) : Kept2 bo bb a c := fun i o hi _ _ _ => (h.block i (Array.getElem?_eq_some_iff.1 hi).1).trans hi
theorem Kept2.of_others {bo bb : Nat} {a c : World} (h : Lib.OthersKept 5 (some bb) a c) : Kept2 bo bb a c := fun i o hi _ h2 ho => h i o hi (by simpa using h2) ho
theorem Kept2.set {bo bb : Nat} (a : World) (i : Nat) (v : Value) : Kept2 bo bb a (a.setCell ⟨bo, i, none⟩ v) := fun k o hk h1 _ _ => (Below.heap_setCell _ _ _ _ h1).trans hk
/-- A builder is kept by a store into another block that is no row of bytes. -/
theorem builder_set {B b g i : Nat} {bs : List Value} {w : World} {C : Array Value} {t : TypeId} {fr : Nat × Nat} (h : Lib.IsBuilderF 58 5 B b bs w) (hg : w.heap[g]? = some (.cells C t fr)) (ht : t ≠ 5) (hne : g ≠ b) (v : Value) : Lib.IsBuilderF 58 5 B b bs (w.setCell ⟨g, i, none⟩ v) := by
  have hone : ∀ {p : Value}, Lib.BuilderAtF 58 5 B b p bs w → Lib.BuilderAtF 58 5 B b p bs (w.setCell ⟨g, i, none⟩ v) := by
    rintro p ⟨hB, v0, hbk, hown, hn2⟩
    refine ⟨hB, v0, (Below.heap_setCell _ _ _ _ (Ne.symm hne)).trans hbk, hown.kept (row := some g) ⟨rfl, rfl, rfl, by simp [World.setCell], fun k hk hkg => Below.heap_setCell _ _ _ _ (by intro e; exact hkg (by rw [e]))⟩ ?_, hn2⟩
    right
    intro e
    obtain ⟨c, fz, hc⟩ := Lib.ownsRowF_kind hown g e
    rw [hg] at hc
    injection hc with hc
    injection hc with _ h2 _
    exact ht h2
  exact h.imp hone hone

/-- What say leaves: a line more, and whether all was good. -/
def SayOut (bo bb B : Nat) (l : List UInt8) (ok : Bool) (w : World) (e : Ending) (w' : World) : Prop :=
  e = .returned (.tuple #[]) ∧ Lib.IsBuilderF 58 5 B bb (Lib.byteCells l) w' ∧ w'.heap[bo]? = some (.cells #[.bool ok] 4 (0, 0)) ∧ Below B w w' ∧ Kept2 bo bb w w'

set_option maxHeartbeats 4000000 in
set_option maxRecDepth 100000 in
theorem psay_any (good ok : Bool) (l : List UInt8) (words : List (List UInt8)) (A : Option Addr) (c bo bb B : Nat) (w : World) (hA : Reads w 1 A words.length (strs words)) (hA2 : ∀ a, A = some a → a.block ≠ bo)
    (hn : words.length ≤ 3) (hcap : words.length ≤ c) (hc63 : c ≤ 9223372036854775807) (hj : (Lib.join words [32]).length ≤ 2200000)
    (hok : w.heap[bo]? = some (.cells #[.bool ok] 4 (0, 0))) (hb : Lib.IsBuilderF 58 5 B bb (Lib.byteCells l) w) (hl : l.length ≤ 70368744177664) (hne : bo ≠ bb) (hBo : B ≤ bo) :
    Calls Tryd.prog 17 #[.bool good, .slice A words.length c, .pointer (some ⟨bo, 0, none⟩), .pointer (some ⟨bb, 0, none⟩)] w (SayOut bo bb B (l ++ (Lib.join words [32] ++ [10])) (ok && good) w) := by
  have hlt : bo < w.heap.size := (Array.getElem?_eq_some_iff.1 hok).1
  obtain ⟨W1, hW1⟩ : ∃ W1, w.setCell ⟨bo, 0, none⟩ (.bool (ok && good)) = W1 := ⟨_, rfl⟩
  have hok1 : W1.heap[bo]? = some (.cells #[.bool (ok && good)] 4 (0, 0)) := by rw [← hW1, heap_set hok 0 _]; rfl
  have hb1 : Lib.IsBuilderF 58 5 B bb (Lib.byteCells l) W1 := by rw [← hW1]; exact builder_set hb hok (by decide) hne _
  have hk1 : Kept2 bo bb w W1 := by rw [← hW1]; exact Kept2.set _ _ _
  have hB1 : Below B w W1 := by rw [← hW1]; exact (Below.refl _ _).setCell (p := ⟨bo, 0, none⟩) hBo _
  have hA1 : Reads W1 1 A words.length (strs words) := by
    refine ⟨hA.1, fun h0 => ?_⟩
    obtain ⟨a, ha, hr⟩ := hA.2 h0
    refine ⟨a, ha, fun j u hj => ?_⟩
    rw [← hW1]
    have h2 : (w.setCell ⟨bo, 0, none⟩ (.bool (ok && good))).cell? (a.add j) = w.cell? (a.add j) := by
      apply World.cell?_setCell_other
      intro e
      have := congrArg Addr.block e
      rw [block_of_add] at this
      exact hA2 a ha this.symm
    exact h2.trans (hr j u hj)
  have hs1 : B ≤ W1.heap.size := by have := hB1.size; omega
  have HJ := Lib.hid (strJoin_any A c words [32] W1 hA1 (by omega) hcap hc63 (by omega))
  have p0 := cell_of_row _ _ 0 _ _ _ hok
  have z0 := frozen_of_row _ _ 0 _ _ hok
  generalize Lib.join words [32] = js at *
  have HW := Lib.hid (fun W (hW : Below W1.heap.size W1 W) => WriteString_list B bb l (js ++ [10]) W (builder_below hb1 hW) (by simp; omega) (by have := hW.size; omega))
  have HW1 := Lib.hid hW1
  have HOK := Lib.hid hok1
  have HK := Lib.hid hk1
  have HB1 := Lib.hid hB1
  clear hA hA1 hok hok1 hb hb1 hk1 hB1 hW1 hA2
  go_enter Tryd.func17, Tryd.ntmps17
  cases ok with
  | false =>
    simp only [Bool.false_and] at HW1 HOK ⊢
    go_upto_region 1 with (fail)
    rw [HW1.out]
    go_wp2_with (fail)
    refine HJ.out.mono ?_
    rintro e W2 ⟨rfl, hw2⟩
    have HB2 := Lib.hid hw2
    clear hw2 p0 z0
    go_wp2_with (fail)
    refine (HW.out _ HB2.out).mono ?_
    rintro e W3 ⟨rfl, hb3, hB3, hk3⟩
    have hok3 : W3.heap[bo]? = some (.cells #[.bool false] 4 (0, 0)) := hk3 bo _ ((HB2.out.block _ (by have := HB1.out.size; omega)).trans HOK.out) (by simpa using hne) (fun c fz h => by injection h with _ h2 _; revert h2; decide)
    have HE := Lib.hid (And.intro hb3 (And.intro hok3 (And.intro (HB1.out.trans ((HB2.out.mono hs1).trans hB3)) (HK.out.trans ((Kept2.of_below HB2.out).trans (Kept2.of_others hk3))))))
    clear hb3 hok3 hB3 hk3
    go_wp2_with (fail)
    go_end0
    exact ⟨rfl, HE.out⟩
  | true =>
    simp only [Bool.true_and] at HW1 HOK ⊢
    go_upto_region 1 with (fail)
    rw [HW1.out]
    go_wp2_with (fail)
    refine HJ.out.mono ?_
    rintro e W2 ⟨rfl, hw2⟩
    have HB2 := Lib.hid hw2
    clear hw2 p0 z0
    go_wp2_with (fail)
    refine (HW.out _ HB2.out).mono ?_
    rintro e W3 ⟨rfl, hb3, hB3, hk3⟩
    have hok3 : W3.heap[bo]? = some (.cells #[.bool good] 4 (0, 0)) := hk3 bo _ ((HB2.out.block _ (by have := HB1.out.size; omega)).trans HOK.out) (by simpa using hne) (fun c fz h => by injection h with _ h2 _; revert h2; decide)
    have HE := Lib.hid (And.intro hb3 (And.intro hok3 (And.intro (HB1.out.trans ((HB2.out.mono hs1).trans hB3)) (HK.out.trans ((Kept2.of_below HB2.out).trans (Kept2.of_others hk3))))))
    clear hb3 hok3 hB3 hk3
    go_wp2_with (fail)
    go_end0
    exact ⟨rfl, HE.out⟩
end Go.Proofs.YtoifnnhbejofjaaDoor
end
