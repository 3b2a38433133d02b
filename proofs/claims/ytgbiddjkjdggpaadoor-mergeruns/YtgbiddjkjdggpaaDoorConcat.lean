/- slices.Grow of the nil slice, slices.Concat (of texts). -/
import Derived.Test.YtgbiddjkjdggpaaDoorLines
import Derived.Test.YtgbiddjkjdggpaaDoorShelf
import Derived.Lib.AppendZerosOnto
import Derived.Laws.AppendOwnNone
namespace Go.Proofs.YtgbiddjkjdggpaaDoor
open Go.RowKit Plain

set_option maxHeartbeats 1000000 in
theorem Grow_nil (n : Nat) (w : World) (hn : n ≤ 4294967296) :
    Calls Tryd.prog 38 #[.slice none 0 0, .int .i64 n] w fun e w' => ∃ v, e = .returned v ∧ w'.ownsRow w.heap.size 9 1 v 0 [] ∧ Below w.heap.size w w' := by
  obtain ⟨i0, hi, hz0, hz1, hz2⟩ := info_parts info_string
  by_cases h0 : n = 0
  · subst h0
    go_enter Tryd.func38, Tryd.ntmps38
    go_wp2_with (fail)
    go_ret
    exact ⟨_, rfl, World.ownsRow_nil _ _ _ _, Below.refl _ _⟩
  · have hpos : (n : Int) > 0 := by omega
    have hneg : ¬ ((n : Int) < 0) := by omega
    have h2 : IntKind.i64.wrap ((n : Int) - 0) = (n : Int) := by rw [show (n : Int) - 0 = n by omega]; exact IntWalk.i64_in _ (by omega)
    have hrz : ∀ ty, (Builtin.append_ #[32, 3] ty #[.slice none 0 0, .int .i64 (n : Int)]).run Tryd.prog w =
        .ok (.slice (some ⟨w.heap.size, 0, none⟩) n (grownCap w n 0 9)) (w.drew.alloc (.cells (#[] ++ Builtin.zeroCells (.string ByteArray.empty : Value).cells n ++ Builtin.zeroCells (.string ByteArray.empty : Value).cells (grownCap w n 0 9 - n)) 9)) := fun ty => by
      have h := Lib.run_append_grow_zeros (P := Tryd.prog) w 32 3 ty 9 i0 (.string ByteArray.empty) .i64 .i64 Tryd.underlying32 Tryd.underlying3 hi hz0 none 0 0 [] (run_firstCells_none w.drew i0.size 0 0 0) n (by omega) (by rw [hz1]; omega) (by omega) (by omega) (by rw [hz2]; omega)
        (by rw [Nat.zero_add]; exact growslice_fits (by omega) (by rw [hz2]; omega))
      rw [Nat.zero_add] at h
      exact h
    have hG := grownCap_ge w n 0 9
    have hG2 := grownCap_le_maxLen w n 0 9 (by unfold maxLen; omega)
    generalize grownCap w n 0 9 = G at *
    have hG63 : G ≤ 9223372036854775807 := by unfold maxLen at hG2; omega
    have HRZ := Lib.hid hrz
    clear hrz h0 hi hz0 hz1 hz2
    go_enter Tryd.func38, Tryd.ntmps38
    go_wp2_with (at_builtin; refine Lib.wpList_append_run _ rfl _ _ _ _ rfl _ _ rfl rfl _ _ (HRZ.out _) ?_)
    go_ret
    refine ⟨_, rfl, ⟨rfl, .inr ⟨w.heap.size, G, _, rfl, Nat.le_refl _, heap_alloc_new w.drew _, by omega, hG2, ?_, ?_⟩⟩, ((Below.refl _ _).drew).alloc (Nat.le_refl _) _⟩
    · simp [Builtin.zeroCells, Value.cells]; omega
    · simp

theorem own_base' {w : World} {base base' : Nat} {e : TypeId} {size n : Nat} {v : Value} {xs : List Value} (h : w.ownsRow base e size v n xs) (hb : base' ≤ base) : w.ownsRow base' e size v n xs := by
  rcases h with ⟨h1, h2 | ⟨g, cap, cur, h2, h3, h4⟩⟩
  · exact ⟨h1, .inl h2⟩
  · exact ⟨h1, .inr ⟨g, cap, cur, h2, Nat.le_trans hb h3, h4⟩⟩

/-- a []string of the call's own -/
def OwnOut (w : World) (l : List (List UInt8)) (e : Ending) (w' : World) : Prop := ∃ v, e = .returned v ∧ w'.ownsRow w.heap.size 9 1 v l.length (strs l) ∧ Below w.heap.size w w'

/-- one of the slices that Concat takes -/
structure Src where
  A : Option Addr
  c : Nat
  l : List (List UInt8)
def Src.val (s : Src) : Value := .slice s.A s.l.length s.c
def Src.ok (w : World) (s : Src) : Prop := Reads w 1 s.A s.l.length (strs s.l) ∧ (s.A = none → s.c = 0 ∧ s.l = [])
theorem Src.ok.below {w w' : World} {s : Src} (h : s.ok w) (hb : Below w.heap.size w w') : s.ok w' := ⟨h.1.below hb, h.2⟩
def tot (srcs : List Src) : Nat := (srcs.map (·.l.length)).sum
theorem tot_take {srcs : List Src} {k : Nat} (hk : k < srcs.length) : tot (srcs.take (k + 1)) = tot (srcs.take k) + (srcs[k]).l.length := by
  unfold tot
  rw [List.take_succ_eq_append_getElem hk, List.map_append, List.sum_append]
  simp only [List.map_cons, List.map_nil, List.sum_cons, List.sum_nil, Nat.add_zero]
theorem flat_take {srcs : List Src} {k : Nat} (hk : k < srcs.length) : (srcs.take (k + 1)).flatMap (·.l) = (srcs.take k).flatMap (·.l) ++ (srcs[k]).l := by
  rw [List.take_succ_eq_append_getElem hk, List.flatMap_append]
  simp only [List.flatMap_cons, List.flatMap_nil, List.append_nil]
theorem flat_length (srcs : List Src) : (srcs.flatMap (·.l)).length = tot srcs := by
  unfold tot
  rw [List.length_flatMap]
theorem tot_le (srcs : List Src) (k : Nat) : tot (srcs.take k) ≤ tot srcs := by
  conv => rhs; rw [← List.take_append_drop k srcs]
  unfold tot
  rw [List.map_append, List.sum_append]
  omega

theorem src_at {w : World} {X : Option Addr} {srcs : List Src} {k : Nat} (h : Reads w 1 X srcs.length (srcs.map Src.val)) (hk : k < srcs.length) :
    ∃ ad, X = some ad ∧ w.cell? (ad.add k) = some (.slice (srcs[k]).A (srcs[k]).l.length (srcs[k]).c) := by
  obtain ⟨ad, u, hA, hu, hc⟩ := h.at_ hk
  rw [List.getElem?_map, List.getElem?_eq_getElem hk] at hu
  injection hu with hu
  exact ⟨ad, hA, by rw [hc, ← hu]; rfl⟩

set_option maxHeartbeats 2000000 in
theorem Concat_any (X : Option Addr) (c : Nat) (srcs : List Src) (w : World) (hX : Reads w 1 X srcs.length (srcs.map Src.val)) (hok : ∀ s ∈ srcs, s.ok w) (hn : srcs.length ≤ 4294967296) (ht : tot srcs ≤ 4294967296) :
    Calls Tryd.prog 28 #[.slice X srcs.length c] w (OwnOut w (srcs.flatMap (·.l))) := by
  obtain ⟨i0, hi, hz0, hz1, hz2⟩ := info_parts info_string
  have HOK := Lib.hid hok
  clear hok
  go_enter Tryd.func28, Tryd.ntmps28
  go_wp2_with (fail)
  go_loopw [3, 11] (fun t3 t11 W => ∃ k : Nat, k ≤ srcs.length ∧ t11 = .int .i64 k ∧ t3 = .int .i64 (tot (srcs.take k)) ∧ Hid (Below w.heap.size w W)) (fun _ t11 _ => srcs.length - (intOf t11).toNat)
  case atStart => exact ⟨0, by omega, rfl, by simp [tot], Lib.hid (Below.refl _ _)⟩
  case round =>
    obtain ⟨k, hk, rfl, rfl, HB⟩ := hrel
    have hbel := HB.out
    by_cases hlt : k < srcs.length
    · obtain ⟨ad, hXe, cX⟩ := src_at (hX.below hbel) hlt
      subst hXe
      have htk := tot_take hlt
      have hle := tot_le srcs (k + 1)
      generalize (srcs[k]).l.length = nk at *
      generalize (srcs[k]).A = Ak at *
      generalize (srcs[k]).c = ck at *
      have hti : ((tot (srcs.take k) : Nat) : Int) + nk = ((tot (srcs.take (k + 1)) : Nat) : Int) := by omega
      generalize hT1 : tot (srcs.take (k + 1)) = T1 at *
      generalize tot (srcs.take k) = T0 at *
      have h0 : ¬ ((T1 : Int) < 0) := by omega
      clear hbel htk
      go_wp2_with (fail)
      go_roundw
      case rel => exact ⟨k + 1, by omega, by go_num, by go_num, Lib.hid HB.out⟩
      case measure => simp [intOf]; omega
    · obtain rfl : k = srcs.length := by omega
      have hg := Grow_nil (tot srcs) wr (by omega)
      rw [List.take_of_length_le (Nat.le_refl _)]
      generalize hT0 : tot srcs = T0 at *
      have HG := Lib.hid hg
      clear hg hbel hlt
      go_wp2_with (fail)
      refine HG.out.mono ?_
      rintro e w1 ⟨v, rfl, hown, hb1⟩
      have hbel1 := HB.out.trans (hb1.mono HB.out.size)
      have hown := own_base' hown HB.out.size
      have HB1 := Lib.hid hbel1
      clear hb1 hbel1
      go_wp2_with (fail)
      go_loopw [6, 27] (fun t6 t27 W => ∃ k : Nat, k ≤ srcs.length ∧ t27 = .int .i64 k ∧ W.ownsRow w.heap.size 9 1 t6 (tot (srcs.take k)) (strs ((srcs.take k).flatMap (·.l))) ∧ Hid (Below w.heap.size w W)) (fun _ t27 _ => srcs.length - (intOf t27).toNat)
      case atStart => exact ⟨0, by omega, rfl, hown, HB1⟩
      case round =>
        clear HB HB1 hown
        obtain ⟨k, hk, rfl, hown, HB⟩ := hrel
        have hbel := HB.out
        have hsw := HB.out.size
        by_cases hlt : k < srcs.length
        · obtain ⟨ad, hXe, cX⟩ := src_at (hX.below hbel) hlt
          subst hXe
          have htk := tot_take hlt
          have hfk := flat_take hlt
          have hle := tot_le srcs (k + 1)
          obtain ⟨hrd, hnil⟩ := (HOK.out _ (List.getElem_mem hlt)).below hbel
          generalize (srcs[k]).l = lk at *
          generalize (srcs[k]).A = Ak at *
          generalize (srcs[k]).c = ck at *
          rw [htk] at hle
          have HF := Lib.hid hfk
          have HT := Lib.hid htk
          clear hbel htk hfk
          cases Ak with
          | none =>
            obtain ⟨rfl, rfl⟩ := hnil rfl
            go_wp2_with (at_builtin; refine wpList_append_own_none rfl _ _ 32 rfl w.heap.size 9 i0 1 Tryd.underlying32 hi _ _ _ rfl hown rfl ?_)
            go_wp2_with (fail)
            go_roundw
            case rel => exact ⟨k + 1, by omega, by go_num, by rw [HF.out, HT.out]; simpa [strs_append] using hown, HB⟩
            case measure => simp [intOf]; omega
          | some bd =>
            have hnews : ∀ j u, (strs lk)[j]? = some u → wr.cell? (bd.add j) = some u := by
              intro j u hj
              have hjl : j < lk.length := by
                have := (List.getElem?_eq_some_iff.1 hj).1
                simpa [strs] using this
              obtain ⟨ad', e', hc'⟩ := hrd.2 (by omega)
              injection e' with e'
              subst e'
              exact hc' j u hj
            go_wp2_with (at_builtin; refine wpList_append_own _ rfl _ _ 32 rfl w.heap.size 9 i0 _ 1 16 Tryd.underlying32 hi hz0 hz1 hz2 rfl (by decide) _ _ _ rfl hown bd lk.length ck (strs lk) rfl (by rw [strs_length]; omega) hnews (strs_oneCell lk) ?c3 ?c4 ?c5 ?_)
            case c3 => unfold maxLen; omega
            case c4 => omega
            intro v1 w1 hown1 hg1 _
            have hb1 : Below w.heap.size w w1 := HB.out.grown hg1 (by omega) (fun k hk => (hown.lt k hk).1)
            have HB1 := Lib.hid hb1
            clear hg1 hb1 hnews
            go_wp2_with (fail)
            go_roundw
            case rel => exact ⟨k + 1, by omega, by go_num, by rw [HF.out, HT.out, strs_append]; exact hown1, HB1⟩
            case measure => simp [intOf]; omega
        · obtain rfl : k = srcs.length := by omega
          rw [List.take_of_length_le (Nat.le_refl _)] at hown
          go_wp2_with (fail)
          go_ret
          exact ⟨_, rfl, by rw [flat_length]; exact hown, HB.out⟩

theorem concat5 (w : World) (s1 s2 s3 s4 s5 : Src) (n1 n2 n3 n4 n5 : Nat) (h1 : s1.l.length = n1) (h2 : s2.l.length = n2) (h3 : s3.l.length = n3) (h4 : s4.l.length = n4) (h5 : s5.l.length = n5)
    (k1 : s1.ok w) (k2 : s2.ok w) (k3 : s3.ok w) (k4 : s4.ok w) (k5 : s5.ok w) (ht : n1 + n2 + n3 + n4 + n5 ≤ 4294967296) :
    Calls Tryd.prog 28 #[.slice (some ⟨w.heap.size, 0, none⟩) 5 5] (w.alloc (.cells #[.slice s1.A n1 s1.c, .slice s2.A n2 s2.c, .slice s3.A n3 s3.c, .slice s4.A n4 s4.c, .slice s5.A n5 s5.c] 32)).drew
      (OwnOut (w.alloc (.cells #[.slice s1.A n1 s1.c, .slice s2.A n2 s2.c, .slice s3.A n3 s3.c, .slice s4.A n4 s4.c, .slice s5.A n5 s5.c] 32)).drew (s1.l ++ s2.l ++ s3.l ++ s4.l ++ s5.l)) := by
  subst h1 h2 h3 h4 h5
  have hb : Below w.heap.size w (w.alloc (.cells #[.slice s1.A s1.l.length s1.c, .slice s2.A s2.l.length s2.c, .slice s3.A s3.l.length s3.c, .slice s4.A s4.l.length s4.c, .slice s5.A s5.l.length s5.c] 32)).drew := ((Below.refl _ _).alloc (Nat.le_refl _) _).drew
  have h := Concat_any (some ⟨w.heap.size, 0, none⟩) 5 [s1, s2, s3, s4, s5] (w.alloc (.cells #[.slice s1.A s1.l.length s1.c, .slice s2.A s2.l.length s2.c, .slice s3.A s3.l.length s3.c, .slice s4.A s4.l.length s4.c, .slice s5.A s5.l.length s5.c] 32)).drew
    ⟨rfl, fun _ => ⟨_, rfl, fun j u hj => by
      rw [show (⟨w.heap.size, 0, none⟩ : Addr).add j = ⟨w.heap.size, j, none⟩ by unfold Addr.add; split <;> simp_all]
      show (w.alloc _).cell? _ = _
      rw [cell_of_row _ _ _ #[.slice s1.A s1.l.length s1.c, .slice s2.A s2.l.length s2.c, .slice s3.A s3.l.length s3.c, .slice s4.A s4.l.length s4.c, .slice s5.A s5.l.length s5.c] 32 (0, 0) (heap_alloc_new w _)]
      simpa [Src.val] using hj⟩⟩
    (fun s hs => by
      simp only [List.mem_cons, List.not_mem_nil, or_false] at hs
      rcases hs with rfl | rfl | rfl | rfl | rfl
      · exact k1.below hb
      · exact k2.below hb
      · exact k3.below hb
      · exact k4.below hb
      · exact k5.below hb) (by simp) (by simp [tot]; omega)
  have he : [s1, s2, s3, s4, s5].flatMap (·.l) = s1.l ++ s2.l ++ s3.l ++ s4.l ++ s5.l := by simp
  rw [he] at h
  exact h

theorem join_empty (xs : List (List UInt8)) : Lib.join xs [] = xs.flatten := by
  cases xs with
  | nil => rfl
  | cons x r => rw [Lib.join_cons]; simp [Lib.joinTail]
theorem join_own {w : World} {base : Nat} {v : Value} {l : List (List UInt8)} (h : w.ownsRow base 9 1 v l.length (strs l)) (hl : l.length ≤ 4294967296) (hf : l.flatten.length ≤ 140737488355328) :
    Calls Tryd.prog 25 #[v, .string ⟨#[]⟩] w (Ret w (.string ⟨l.flatten.toArray⟩)) := by
  have h' := h
  rcases h.2 with ⟨rfl, h0⟩ | ⟨g, cap, cur, rfl, _, hg, hc, _, _, _⟩
  · have hl0 : l = [] := List.length_eq_zero_iff.1 h0
    subst hl0
    refine (Tryd.strings_Join_none none 0 ⟨#[]⟩ w).mono ?_
    rintro e w1 ⟨rfl, rfl⟩
    exact ⟨rfl, Below.refl _ _⟩
  · have hj := Tryd.strings_Join g 0 cap (l.map fun s => (⟨s.toArray⟩ : ByteArray)) ⟨#[]⟩ w (fun j x hx => by
      have hcs := h'.cells (g := g) rfl j (.string x) (by
        rw [List.getElem?_map] at hx
        cases hj : l[j]? with
        | none => rw [hj] at hx; simp at hx
        | some s =>
          rw [hj] at hx
          simp only [Option.map_some, Option.some.injEq] at hx
          simp [strs, hj, strV, hx])
      rw [show (⟨g, 0, none⟩ : Addr).add j = ⟨g, j, none⟩ by unfold Addr.add; split <;> simp_all] at hcs
      rw [Nat.zero_add]; exact hcs) (Array.getElem?_eq_some_iff.1 hg).1 (by simp; omega) (by simpa using hc) (by
        rw [List.map_map, show ((fun x : ByteArray => x.data.toList) ∘ fun s : List UInt8 => (⟨s.toArray⟩ : ByteArray)) = id by funext s; simp, List.map_id]
        show (Lib.join l []).length ≤ _
        rw [join_empty]; exact hf)
    rw [List.map_map, show ((fun x : ByteArray => x.data.toList) ∘ fun s : List UInt8 => (⟨s.toArray⟩ : ByteArray)) = id by funext s; simp, List.map_id] at hj
    rw [show Lib.join l (ByteArray.mk #[]).data.toList = l.flatten from join_empty l, List.length_map] at hj
    exact hj
end Go.Proofs.YtgbiddjkjdggpaaDoor
