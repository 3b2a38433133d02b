/- strings.Join: texts one behind the other, a separator between them. -/
import Derived.Test.YtknoedlelmflhaaGrow
import Derived.Lib.Join
namespace Go.Proofs.Ytknoedlelmflhaa
open Go.RowKit

theorem add_zero' (a : Addr) : a.add 0 = a := by simp [Addr.add]
theorem Join_none (A : Option Addr) (c : Nat) (sep : List UInt8) (w : World) :
    Calls Try.prog 50 #[.slice A 0 c, .string ⟨sep.toArray⟩] w (Ret w (.string ⟨#[]⟩)) := by
  go_enter Try.func50, Try.ntmps50
  go_wp2_with (fail)
  go_ret
  exact ⟨rfl, Below.refl _ _⟩
theorem Join_one (a : Addr) (c : Nat) (x sep : List UInt8) (w : World) (hc : w.cell? a = some (.string ⟨x.toArray⟩)) :
    Calls Try.prog 50 #[.slice (some a) 1 c, .string ⟨sep.toArray⟩] w (Ret w (.string ⟨x.toArray⟩)) := by
  go_enter Try.func50, Try.ntmps50
  go_wp2_with (fail)
  go_ret
  exact ⟨rfl, Below.refl _ _⟩

set_option maxHeartbeats 4000000 in
set_option maxRecDepth 100000 in
theorem Join_many (ad : Addr) (c : Nat) (x0 : List UInt8) (r : List (List UInt8)) (sep : List UInt8) (w : World) (hl : Reads w 1 (some ad) (r.length + 1) (strs (x0 :: r)))
    (h2 : 1 ≤ r.length) (hN : r.length + 1 ≤ 140737488355328) (hcap : r.length + 1 ≤ c) (hc63 : c ≤ 9223372036854775807) (hlen : (Lib.join (x0 :: r) sep).length ≤ 140737488355328) :
    Calls Try.prog 50 #[.slice (some ad) (r.length + 1 : Nat) c, .string ⟨sep.toArray⟩] w (Ret w (.string ⟨(Lib.join (x0 :: r) sep).toArray⟩)) := by
  have hcell : ∀ W, Below w.heap.size w W → ∀ k, (h : k < r.length + 1) → W.cell? (ad.add k) = some (.string ⟨((x0 :: r)[k]'(by simpa using h)).toArray⟩) := by
    intro W hW k hk
    obtain ⟨ad', he, hcc⟩ := Reads.str_at (l := x0 :: r) (A := some ad) (k := k) (hl.below hW) (by simpa using hk)
    injection he with he
    subst he
    exact hcc
  have HC := Lib.hid hcell
  clear hcell
  have hjl := hlen
  rw [Lib.join_length] at hjl
  generalize hM : sep.length * r.length = M at hjl
  have hcast : ((r.length + 1 : Nat) : Int) - 1 = (r.length : Int) := by omega
  have hlt : sep.length < 9223372036854775807 / r.length := by
    have : sep.length + 1 ≤ 9223372036854775807 / r.length := by
      rw [Nat.le_div_iff_mul_le (by omega), Nat.add_mul, hM]
      omega
    omega
  have hdv : ¬ (9223372036854775807 / (r.length : Int) ≤ (sep.length : Int)) := by
    have e : (9223372036854775807 : Int) / (r.length : Int) = ((9223372036854775807 / r.length : Nat) : Int) := IntWalk.up_div (x := 9223372036854775807) rfl rfl
    rw [e]
    generalize 9223372036854775807 / r.length = q at hlt
    omega
  have hprod : wrap64 ((sep.length : Int) * (r.length : Int)) = (M : Int) := by
    have e : (sep.length : Int) * (r.length : Int) = ((sep.length * r.length : Nat) : Int) := IntWalk.up_mul rfl rfl
    rw [e, hM]
    exact IntWalk.wrap64_in _ ⟨by omega, by omega⟩
  have hM0 : sep.length = 0 → M = 0 := fun h => by rw [← hM, h, Nat.zero_mul]
  clear hlt hcast
  have hne0 : (((r.length + 1 : Nat) : Int) == 0) = false := beq_eq_false_iff_ne.2 (by omega)
  have hne1 : (((r.length + 1 : Nat) : Int) == 1) = false := beq_eq_false_iff_ne.2 (by omega)
  have HM := Lib.hid hM
  have Hlen := Lib.hid hlen
  clear hlen hM hl
  go_enter Try.func50, Try.ntmps50
  go_wp2_with fail
  all_goals (
    go_loop [5, 41] (fun n i => ∃ k : Nat, k ≤ r.length + 1 ∧ i = .int .i64 k ∧ n = .int .i64 ((M + Lib.lens ((x0 :: r).take k) : Nat) : Int)) (fun _ i => r.length + 1 - (intOf i).toNat)
    case atStart => exact ⟨0, Nat.zero_le _, rfl, by first | (simp [Lib.lens]; done) | (have := hM0 (by omega); simp [Lib.lens, this])⟩
    case round =>
      obtain ⟨k, hk, rfl, rfl⟩ := hrel
      by_cases hkn : k < r.length + 1
      · have hc := HC.out w (Below.refl _ _) k hkn
        have hstep := Lib.lens_take_succ (x0 :: r) k ((x0 :: r)[k]'(by simpa using hkn)) (List.getElem?_eq_getElem _)
        have hbound : Lib.lens ((x0 :: r).take (k + 1)) ≤ Lib.lens (x0 :: r) := Lib.lens_take_le _ _
        generalize hA1 : Lib.lens ((x0 :: r).take (k + 1)) = A1 at hstep hbound
        generalize Lib.lens ((x0 :: r).take k) = A0 at hstep
        generalize (x0 :: r)[k]'(by simpa using hkn) = x at hc hstep
        have HA1 := Lib.hid hA1
        clear hA1
        go_wp2_with (fail)
        exact ⟨⟨k + 1, by omega, by go_num, by rw [HA1.out]; refine congrArg _ ?_; omega⟩, by simp [intOf]; omega⟩
      · have hke : k = r.length + 1 := by omega
        subst hke
        have hall : (x0 :: r).take (r.length + 1) = x0 :: r := List.take_of_length_le (by simp)
        rw [hall]
        generalize hT : Lib.lens (x0 :: r) = T at hjl
        have HT := Lib.hid hT
        clear hT hall
        go_wp2_with (fail)
        have hMT : ((M : Int) + (T : Int)) = ((M + T : Nat) : Int) := by omega
        rw [hMT]
        refine (Grow_fresh w.heap.size w.heap.size (M + T) _ (Nat.le_refl _) (heap_alloc_new w _) (by simp) (by omega)).mono ?_
        rintro e w1 ⟨rfl, h1, hb1⟩
        have hb1' : Below w.heap.size w w1 := ((Below.refl w.heap.size w).alloc (Nat.le_refl _) _).trans hb1
        have hc0 := HC.out w1 hb1' 0 (by omega)
        simp only [List.getElem_cons_zero, add_zero'] at hc0
        have hH1 : Lib.IsBuilderF 114 5 w.heap.size w.heap.size (Lib.byteCells []) w1 := Lib.IsBuilderF.of (Or.inr h1)
        have H1 := Lib.hid hH1
        have Hb1 := Lib.hid hb1'
        have hBw1 : w.heap.size ≤ w1.heap.size := hb1'.size
        clear h1 hb1 hb1' hMT hH1
        have hwhole : Lib.join (x0 :: r) sep = x0 ++ Lib.joinTail sep r := Lib.join_cons _ _ _
        have hCle : ∀ k, (x0 ++ Lib.joinTail sep (r.take k)).length ≤ 140737488355328 := fun k => by
          have h1 := Hlen.out
          rw [hwhole, List.length_append] at h1
          have h2 := Lib.joinTail_take_le sep r k
          rw [List.length_append]
          omega
        have HCle := Lib.hid hCle
        have Hwhole := Lib.hid hwhole
        clear hCle hwhole
        go_wp2_with fail
        refine (WriteString_list w.heap.size w.heap.size [] x0 w1 H1.out (by have := HCle.out 0; simp [Lib.joinTail] at this ⊢; omega) hBw1).mono ?_
        rintro e w2 ⟨rfl, h2', hb2, _⟩
        have hstart : ([] : List UInt8) ++ x0 = x0 ++ Lib.joinTail sep (r.take 0) := by simp [Lib.joinTail]
        rw [hstart] at h2'
        have H2 := Lib.hid h2'
        have Hb2 := Lib.hid (Hb1.out.trans hb2)
        clear h2' hb2 hstart
        go_wp2_with fail
        go_loopw [10, 65] (fun _ i wr => ∃ k : Nat, k ≤ r.length ∧ i = .int .i64 k ∧ Hid (Lib.IsBuilderF 114 5 w.heap.size w.heap.size (Lib.byteCells (x0 ++ Lib.joinTail sep (r.take k))) wr) ∧ Hid (Below w.heap.size w wr)) (fun _ i _ => r.length - (intOf i).toNat)
        case atStart => exact ⟨0, Nat.zero_le _, rfl, H2, Hb2⟩
        case round =>
          obtain ⟨k, hk', rfl, HB, HW⟩ := hrel
          by_cases hkr : k < r.length
          · have hcy := HC.out wr HW.out (k + 1) (by omega)
            simp only [List.getElem_cons_succ] at hcy
            have hcz : wr.cell? ⟨ad.block, ad.off + 1 + k, none⟩ = some (.string ⟨(r[k]).toArray⟩) := by
              rw [← hcy]; congr 1; simp [Addr.add]; omega
            have hBw : w.heap.size ≤ wr.heap.size := HW.out.size
            have hnext : x0 ++ Lib.joinTail sep (r.take k) ++ sep ++ r[k] = x0 ++ Lib.joinTail sep (r.take (k + 1)) := by
              rw [Lib.joinTail_take_succ sep r k (r[k]) (List.getElem?_eq_getElem hkr)]; simp
            have hl1 := HCle.out (k + 1)
            rw [← hnext] at hl1
            simp only [List.length_append] at hl1
            generalize r[k] = y at *
            generalize hJ : (x0 ++ Lib.joinTail sep (r.take k)) = J at *
            have hl2 : J.length + sep.length + y.length ≤ 140737488355328 := by rw [← hJ, List.length_append]; omega
            have Hn := Lib.hid hnext
            clear hnext hcy hJ hl1
            go_wp2_with fail
            refine (WriteString_list w.heap.size w.heap.size J sep wr HB.out (by omega) hBw).mono ?_
            rintro e w3 ⟨rfl, h3, hb3, _⟩
            have hBw3 : w.heap.size ≤ w3.heap.size := Nat.le_trans hBw hb3.size
            have H3 := Lib.hid h3
            have Hb3 := Lib.hid hb3
            clear h3 hb3
            go_wp2_with fail
            refine (WriteString_list w.heap.size w.heap.size _ y w3 H3.out (by rw [List.length_append]; omega) hBw3).mono ?_
            rintro e w4 ⟨rfl, h4, hb4, _⟩
            rw [Hn.out] at h4
            have H4 := Lib.hid h4
            have Hb4 := Lib.hid ((HW.out.trans Hb3.out).trans hb4)
            clear h4 hb4
            go_wp2
            exact ⟨⟨k + 1, by omega, by go_num, H4, Hb4⟩, by simp [intOf]; omega⟩
          · have hke : k = r.length := by omega
            subst hke
            have hB' := HB.out
            rw [List.take_of_length_le (Nat.le_refl _), ← Hwhole.out] at hB'
            have HB2 := Lib.hid hB'
            have hBw : w.heap.size ≤ wr.heap.size := HW.out.size
            clear hB'
            go_wp2_with fail
            refine (Try.Builder_String_any_f _ _ _ _ HB2.out hBw).mono ?_
            rintro e w5 ⟨rfl, _, hb5⟩
            have Hb5 := Lib.hid (HW.out.trans hb5)
            clear hb5
            go_wp2
            go_ret
            exact ⟨rfl, Hb5.out⟩)

/-- strings.Join of the texts l. -/
theorem strJoin_any (A : Option Addr) (c : Nat) (l : List (List UInt8)) (sep : List UInt8) (w : World) (hl : Reads w 1 A l.length (strs l)) (hN : l.length ≤ 140737488355328) (hcap : l.length ≤ c) (hc63 : c ≤ 9223372036854775807)
    (hlen : (Lib.join l sep).length ≤ 140737488355328) :
    Calls Try.prog 50 #[.slice A l.length c, .string ⟨sep.toArray⟩] w (Ret w (.string ⟨(Lib.join l sep).toArray⟩)) := by
  match l, hl, hN, hcap, hlen with
  | [], _, _, _, _ => exact Join_none A c sep w
  | [x], hl, _, _, _ =>
    obtain ⟨ad, rfl, hc⟩ := hl.str_at (l := [x]) (k := 0) (by simp)
    rw [Lib.join_one]
    rw [add_zero'] at hc
    exact Join_one ad c x sep w hc
  | x :: y :: r, hl, hN, hcap, hlen =>
    obtain ⟨ad, rfl, hc⟩ := hl.str_at (l := x :: y :: r) (k := 0) (by simp)
    exact Join_many ad c x (y :: r) sep w hl (by simp) hN hcap hc63 hlen
end Go.Proofs.Ytknoedlelmflhaa
