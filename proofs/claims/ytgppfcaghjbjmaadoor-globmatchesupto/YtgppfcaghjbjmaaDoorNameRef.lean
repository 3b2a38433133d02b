/- hawserref01: Name, Parts, Path. -/
import Derived.Test.YtgppfcaghjbjmaaDoorRuneRef
import Derived.Test.YtgppfcaghjbjmaaDoorNameFns
namespace Go.Proofs.YtgppfcaghjbjmaaDoor
open Go.RowKit Plain

theorem anyM_take (s : List UInt8) (k : Nat) (h : k < s.length) : anyM (s.take (k + 1)) = (anyM (s.take k) || s[k] == 47 || s[k] == 0) := by
  unfold anyM
  rw [List.take_succ_eq_append_getElem h]
  simp only [List.contains_append, List.contains_cons, List.contains_nil, Bool.or_false]
  rw [show ((47 : UInt8) == s[k]) = (s[k] == 47) by rw [Bool.eq_iff_iff]; simp only [beq_iff_eq]; exact eq_comm, show ((0 : UInt8) == s[k]) = (s[k] == 0) by rw [Bool.eq_iff_iff]; simp only [beq_iff_eq]; exact eq_comm]
  cases (s.take k).contains 47 <;> cases (s.take k).contains 0 <;> cases s[k] == 47 <;> cases s[k] == 0 <;> rfl
theorem anyM_le (s : List UInt8) (k : Nat) (h : anyM (s.take k) = true) : anyM s = true := by
  unfold anyM at h ⊢
  simp only [Bool.or_eq_true, List.contains_iff_mem] at h ⊢
  rcases h with h | h
  · exact .inl (List.mem_of_mem_take h)
  · exact .inr (List.mem_of_mem_take h)

theorem mem_sum : ∀ {l : List (List UInt8)} {x : List UInt8}, x ∈ l → x.length ≤ (l.map List.length).sum
  | [], _, h => by cases h
  | y :: l, x, h => by
    rcases List.mem_cons.1 h with rfl | h
    · simp
    · have := mem_sum h; simp; omega
set_option maxRecDepth 100000 in
set_option maxHeartbeats 2000000 in
theorem Name_ref (s : List UInt8) (w : World) (hs : s.length ≤ 9223372036854775806) :
    Calls Tryd.prog 30 #[.string ⟨s.toArray⟩] w (Ret w (.bool (nameOK s))) := by
  rw [nameOK_any]
  by_cases h1 : s.length ≤ 64
  · have hc1 : decide ((64 : Int) < s.length) = false := by simp; omega
    have hc1' : decide (s.length ≤ 64) = true := by simp; omega
    rw [hc1']
    have HV := Lib.hid (fun W => Valid_ref s W (by omega))
    obtain ⟨b0, h0⟩ : ∃ b, s.isEmpty = b := ⟨_, rfl⟩
    obtain ⟨b2, h2⟩ : ∃ b, (s == [46]) = b := ⟨_, rfl⟩
    obtain ⟨b3, h3⟩ : ∃ b, (s == [46, 46]) = b := ⟨_, rfl⟩
    rw [h0, h2, h3]
    clear hc1'
    cases b0 with
    | true =>
      have hl : s.length = 0 := by cases s <;> simp_all
      have hd : decide ((s.length : Int) < 1) = true := by simp; omega
      have HA := Lib.hid hl
      clear hl
      go_enter Tryd.func30, Tryd.ntmps30
      go_wp2_with (fail)
      go_ret
      exact ⟨rfl, Below.refl _ _⟩
    | false =>
      have hl : 1 ≤ s.length := by cases s <;> simp_all
      have hd : decide ((s.length : Int) < 1) = false := by simp; omega
      cases b2 with
      | true =>
        go_enter Tryd.func30, Tryd.ntmps30
        go_wp2_with (fail)
        go_ret
        exact ⟨rfl, Below.refl _ _⟩
      | false =>
        cases b3 with
        | true =>
          go_enter Tryd.func30, Tryd.ntmps30
          go_wp2_with (fail)
          go_ret
          exact ⟨rfl, Below.refl _ _⟩
        | false =>
          generalize Lib.validD s = bv at *
          cases bv with
          | false =>
            go_enter Tryd.func30, Tryd.ntmps30
            go_wp2_with (fail)
            refine (HV.out _).mono ?_
            rintro e w1 ⟨rfl, hw1⟩
            go_wp2_with (fail)
            go_ret
            exact ⟨rfl, hw1⟩
          | true =>
            go_enter Tryd.func30, Tryd.ntmps30
            go_wp2_with (fail)
            refine (HV.out _).mono ?_
            rintro e w1 ⟨rfl, hw1⟩
            go_wp2_with (fail)
            go_loopw [3] (fun t3 W => ∃ k : Nat, k ≤ s.length ∧ t3 = .int .i64 k ∧ Hid (anyM (s.take k) = false) ∧ W = w1) (fun t3 _ => s.length - (intOf t3).toNat)
            case atStart => exact ⟨0, by omega, rfl, Lib.hid rfl, rfl⟩
            case round =>
              obtain ⟨k, hk, rfl, HN, rfl⟩ := hrel
              have i0 : (0 : Int) ≤ k := by omega
              by_cases hlt : k < s.length
              · have i1 : (k : Int) < s.length := by omega
                have ht := anyM_take s k hlt
                rw [HN.out, Bool.false_or] at ht
                have hg : (ByteArray.mk s.toArray)[k]'(by simpa [ByteArray.size] using hlt) = s[k] := rfl
                generalize s[k] = x at *
                have HT := Lib.hid ht
                by_cases e1 : x = 0
                · have HA := Lib.hid (anyM_le s (k + 1) (by rw [ht, e1]; rfl))
                  have hB : ((x.toNat : Int) == 0) = true := by rw [e1]; rfl
                  clear ht e1
                  go_wp2_with (fail)
                  go_ret
                  exact ⟨by rw [HA.out]; rfl, hw1⟩
                · have hB : ((x.toNat : Int) == 0) = false := by simp; exact fun h => e1 (UInt8.toNat.inj (by simpa using h))
                  by_cases e2 : x = 47
                  · have HA := Lib.hid (anyM_le s (k + 1) (by rw [ht, e2]; rfl))
                    have hB2 : ((x.toNat : Int) == 47) = true := by rw [e2]; rfl
                    clear ht e1 e2
                    go_wp2_with (fail)
                    go_ret
                    exact ⟨by rw [HA.out]; rfl, hw1⟩
                  · have hB2 : ((x.toNat : Int) == 47) = false := by
                      simp only [beq_eq_false_iff_ne, ne_eq]
                      exact fun h => e2 (UInt8.toNat.inj (by simp; omega))
                    have HF := Lib.hid (show anyM (s.take (k + 1)) = false by rw [ht]; simp [e1, e2])
                    clear ht e1 e2
                    go_wp2_with (fail)
                    go_roundw
                    case rel => exact ⟨k + 1, by omega, by go_num, HF, by first | trivial | rfl⟩
                    case measure => simp [intOf]; omega
              · obtain rfl : k = s.length := by omega
                have hn := HN.out
                rw [List.take_of_length_le (Nat.le_refl _)] at hn
                have HX := Lib.hid hn
                clear hn HN
                go_wp2_with (fail)
                go_ret
                exact ⟨by rw [HX.out]; rfl, hw1⟩
  · have hc1 : decide ((64 : Int) < s.length) = true := by simp; omega
    have hc1' : decide (s.length ≤ 64) = false := by simp; omega
    rw [hc1']
    have hd : decide ((s.length : Int) < 1) = false := by simp; omega
    clear hc1'
    go_enter Tryd.func30, Tryd.ntmps30
    go_wp2_with (fail)
    go_ret
    exact ⟨by simp, Below.refl _ _⟩

set_option maxRecDepth 100000 in
set_option maxHeartbeats 2000000 in
theorem Parts_ref (s : List UInt8) (w : World) (hs : s.length ≤ 8796093022200) :
    Calls Tryd.prog 26 #[.string ⟨s.toArray⟩] w (StrsOut w (parts s)) := by
  obtain ⟨i0, hi, hz0, hz1, hz2⟩ := info_parts info_string
  show Calls _ _ _ _ (StrsOut w (cutAt 47 [] s))
  go_enter Tryd.func26, Tryd.ntmps26
  go_wp2_with (fail)
  go_loopw [3, 4, 5] (fun t3 t4 t5 W => ∃ (i f : Nat) (d : List (List UInt8)), i ≤ s.length + 1 ∧ f ≤ i ∧ d.length ≤ i ∧ t5 = .int .i64 i ∧ t4 = .int .i64 f ∧ W.ownsRow w.heap.size 9 1 t3 d.length (strs d) ∧
    Hid ((i ≤ s.length → cutAt 47 [] (s.take i) = d ++ [(s.take i).drop f]) ∧ (i = s.length + 1 → cutAt 47 [] s = d)) ∧ Hid (Below w.heap.size w W)) (fun _ _ t5 _ => s.length + 1 - (intOf t5).toNat)
  case atStart => exact ⟨0, 0, [], by omega, by omega, by simp, rfl, rfl, World.ownsRow_nil _ _ _ _, Lib.hid ⟨fun _ => by simp [cutAt], fun h => by omega⟩, Lib.hid (Below.refl _ _)⟩
  case round =>
    obtain ⟨i, f, d, hi1, hf, hd, rfl, rfl, hown, HC, HB⟩ := hrel
    have hsw := HB.out.size
    have hi0 : (0 : Int) ≤ i := by omega
    by_cases hlt : i < s.length
    · have q1 : decide ((i : Int) ≤ s.length) = true := by simp; omega
      have q2 : ((i : Int) == s.length) = false := by simp; omega
      have hsn := cutAt_snoc 47 [] s[i] _ _ _ (HC.out.1 (by omega))
      rw [← List.take_succ_eq_append_getElem hlt] at hsn
      have hdr : (s.take (i + 1)).drop f = (s.take i).drop f ++ [s[i]] := by
        rw [List.take_succ_eq_append_getElem hlt, List.drop_append_of_le_length (by simp; omega)]
      have hcut : (s.drop f).take (i - f) = (s.take i).drop f := by rw [List.drop_take]
      have i1 : (i : Int) < s.length := by omega
      have hgb : (ByteArray.mk s.toArray)[i]'(by simpa [ByteArray.size] using hlt) = s[i] := rfl
      generalize hc : s[i] = c at *
      have HCUT := Lib.hid hcut
      clear hcut
      by_cases h47 : c = 47
      · rw [if_pos h47, List.append_nil] at hsn
        have HSN := Lib.hid hsn
        have hB : ((c.toNat : Int) == 47) = true := by rw [h47]; rfl
        clear hsn h47 hdr
        generalize hpp : (s.drop f).take (i - f) = p at HCUT
        go_wp2_with (at_builtin; refine wpList_append_own _ rfl _ _ 41 rfl w.heap.size 9 i0 _ 1 16 Tryd.underlying41 hi hz0 hz1 hz2 rfl (by decide) _ _ _ rfl (hown.alloc _) ⟨wr.heap.size, 0, none⟩ 1 1 [.string ⟨p.toArray⟩] rfl rfl (laid_one _ _ _) (one_oneCell rfl) ?c3 ?c4 ?c5 ?_)
        case c3 => unfold maxLen; omega
        case c4 => omega
        case c5 => simp; omega
        intro v1 w1 hown1 hg1 _
        have hb1 : Below w.heap.size w w1 := (HB.out.alloc hsw _).grown hg1 (by simp; omega) (fun k hk => (hown.lt k hk).1)
        have hown2 : w1.ownsRow w.heap.size 9 1 v1 (d ++ [p]).length (strs (d ++ [p])) := by
          rw [strs_append, List.length_append]; exact hown1
        have HB1 := Lib.hid hb1
        clear hg1 hb1 hown1 hpp
        go_wp2_with (fail)
        go_roundw
        case rel =>
          refine ⟨i + 1, i + 1, d ++ [p], by omega, by omega, by simp; omega, by go_num, by go_num, hown2, Lib.hid ⟨fun _ => ?_, fun h => by omega⟩, HB1⟩
          have h1 := HSN.out
          rw [← HCUT.out] at h1
          rw [h1, List.drop_eq_nil_of_le (by simp; omega)]; simp
        case measure => simp [intOf]; omega
      · rw [if_neg h47, ← hdr] at hsn
        have HSN := Lib.hid hsn
        have hB : ((c.toNat : Int) == 47) = false := by
          simp only [beq_eq_false_iff_ne, ne_eq]
          intro e; exact h47 (UInt8.toNat.inj (by simp; omega))
        clear hsn h47 hdr
        go_wp2_with (fail)
        go_roundw
        case rel => exact ⟨i + 1, f, d, by omega, by omega, by omega, by go_num, rfl, hown, Lib.hid ⟨fun _ => HSN.out, fun h => by omega⟩, HB⟩
        case measure => simp [intOf]; omega
    · by_cases he : i = s.length
      · have q1 : decide ((i : Int) ≤ s.length) = true := by simp; omega
        have q2 : ((i : Int) == s.length) = true := by simp; omega
        have hcs := HC.out.1 (by omega)
        have hcut : (s.drop f).take (i - f) = (s.take i).drop f := by rw [List.drop_take]
        rw [← hcut] at hcs
        rw [he, List.take_of_length_le (Nat.le_refl _), ← he] at hcs
        have HCS := Lib.hid hcs
        have i1 : (i : Int) ≤ s.length := by omega
        have HE := Lib.hid he
        clear hcs hcut he
        generalize hpp : (s.drop f).take (i - f) = p at HCS
        go_wp2_with (at_builtin; refine wpList_append_own _ rfl _ _ 41 rfl w.heap.size 9 i0 _ 1 16 Tryd.underlying41 hi hz0 hz1 hz2 rfl (by decide) _ _ _ rfl (hown.alloc _) ⟨wr.heap.size, 0, none⟩ 1 1 [.string ⟨p.toArray⟩] rfl rfl (laid_one _ _ _) (one_oneCell rfl) ?d3 ?d4 ?d5 ?_)
        case d3 => unfold maxLen; omega
        case d4 => omega
        case d5 => simp; omega
        intro v1 w1 hown1 hg1 _
        have hb1 : Below w.heap.size w w1 := (HB.out.alloc hsw _).grown hg1 (by simp; omega) (fun k hk => (hown.lt k hk).1)
        have hown2 : w1.ownsRow w.heap.size 9 1 v1 (d ++ [p]).length (strs (d ++ [p])) := by
          rw [strs_append, List.length_append]; exact hown1
        have HB1 := Lib.hid hb1
        clear hg1 hb1 hown1 hpp
        go_wp2_with (fail)
        go_roundw
        case rel => exact ⟨i + 1, i + 1, d ++ [p], by have := HE.out; omega, by omega, by simp; omega, by go_num, by go_num, hown2, Lib.hid ⟨fun h => by have := HE.out; omega, fun _ => HCS.out⟩, HB1⟩
        case measure => have := HE.out; simp [intOf]; omega
      · have hi' : i = s.length + 1 := by omega
        have q1 : decide ((i : Int) ≤ s.length) = false := by simp; omega
        have q1n : decide (i ≤ s.length) = false := by simp; omega
        have q1i : (s.length : Int) < i := by omega
        have hcs := HC.out.2 hi'
        have HCS := Lib.hid hcs
        obtain ⟨A, c, rfl, hc, hm, hr, hA0⟩ := of_own0 hown
        have HR := Lib.hid hr
        clear hown hr hcs hi' he
        go_wp2_with (fail)
        go_ret
        exact ⟨A, c, by rw [HCS.out]; rfl, by rw [HCS.out]; exact hc, hm, by rw [HCS.out]; exact HR.out, HB.out, hA0⟩

set_option maxRecDepth 100000 in
set_option maxHeartbeats 2000000 in
theorem Path_ref (s : List UInt8) (w : World) (hs : s.length ≤ 8796093022200) :
    Calls Tryd.prog 11 #[.string ⟨s.toArray⟩] w (Ret w (.bool (pathOK s))) := by
  have HP := Lib.hid (Parts_ref s w hs)
  have hpl := parts_length s
  have hcl := List.count_le_length (a := (47 : UInt8)) (l := s)
  unfold pathOK
  by_cases h1 : s.length ≤ 400
  · have q1 : decide ((400 : Int) < s.length) = false := by simp; omega
    have hmem : ∀ x ∈ parts s, x.length ≤ 9223372036854775806 := fun x hx => by
      have hj := join_length (parts s)
      rw [join_parts] at hj
      have := mem_sum hx
      omega
    rw [decide_eq_true h1, Bool.true_and]
    have HME := Lib.hid hmem
    clear hmem
    generalize parts s = l at *
    by_cases h2 : l.length ≤ 16
    · have q2 : decide ((16 : Int) < l.length) = false := by simp; omega
      rw [decide_eq_true h2, Bool.true_and]
      go_enter Tryd.func11, Tryd.ntmps11
      go_wp2_with (fail)
      refine HP.out.mono ?_
      rintro e w1 ⟨A, c, rfl, hc, hm, hr, hw1, hA0⟩
      have HR := Lib.hid hr
      clear hr
      go_wp2_with (fail)
      go_loopw [4] (fun t4 W => ∃ k : Nat, k ≤ l.length ∧ t4 = .int .i64 k ∧ Hid ((l.take k).all nameOK = true) ∧ Hid (Below w1.heap.size w1 W)) (fun t4 _ => l.length - (intOf t4).toNat)
      case atStart => exact ⟨0, by omega, rfl, Lib.hid rfl, Lib.hid (Below.refl _ _)⟩
      case round =>
        obtain ⟨k, hk, rfl, HN, HB⟩ := hrel
        have i0 : (0 : Int) ≤ k := by omega
        have hbel := HB.out
        by_cases hlt : k < l.length
        · obtain ⟨ad, rfl, cS⟩ := (HR.out.below hbel).str_at hlt
          have i1 : (k : Int) < l.length := by omega
          have ht : (l.take (k + 1)).all nameOK = nameOK l[k] := by
            rw [List.take_succ_eq_append_getElem hlt, List.all_append, HN.out]; simp
          have HMM := Lib.hid (List.getElem_mem hlt)
          have hN := Name_ref l[k] wr (HME.out _ (List.getElem_mem hlt))
          have hall : l.all nameOK = true → nameOK l[k] = true := fun h => List.all_eq_true.1 h _ (List.getElem_mem hlt)
          generalize l[k] = x at *
          have HT := Lib.hid ht
          have HALL := Lib.hid hall
          clear hbel ht hall
          cases hx : nameOK x with
          | true =>
            rw [hx] at hN HT
            have HNN := Lib.hid hN
            clear hN hx
            go_wp2_with (fail)
            refine HNN.out.mono ?_
            rintro e w2 ⟨rfl, hw2⟩
            have HB2 := Lib.hid (HB.out.trans (hw2.mono HB.out.size))
            clear hw2
            go_wp2_with (fail)
            go_roundw
            case rel => exact ⟨k + 1, by omega, by go_num, HT, HB2⟩
            case measure => simp [intOf]; omega
          | false =>
            rw [hx] at hN
            have HNN := Lib.hid hN
            have HF := Lib.hid (show l.all nameOK = false by
              rw [← Bool.not_eq_true]; intro h; have := HALL.out h; rw [hx] at this; cases this)
            clear hN hx
            go_wp2_with (fail)
            refine HNN.out.mono ?_
            rintro e w2 ⟨rfl, hw2⟩
            go_wp2_with (fail)
            go_ret
            exact ⟨by rw [HF.out]; rfl, hw1.trans ((HB.out.trans (hw2.mono HB.out.size)).mono hw1.size)⟩
        · obtain rfl : k = l.length := by omega
          have hn := HN.out
          rw [List.take_of_length_le (Nat.le_refl _)] at hn
          have HX := Lib.hid hn
          clear hn HN hbel
          go_wp2_with (fail)
          go_ret
          exact ⟨by rw [HX.out]; rfl, hw1.trans (HB.out.mono hw1.size)⟩
    · have q2 : decide ((16 : Int) < l.length) = true := by simp; omega
      rw [decide_eq_false h2, Bool.false_and]
      go_enter Tryd.func11, Tryd.ntmps11
      go_wp2_with (fail)
      refine HP.out.mono ?_
      rintro e w1 ⟨A, c, rfl, hc, hm, hr, hw1, hA0⟩
      go_wp2_with (fail)
      go_ret
      exact ⟨rfl, hw1⟩
  · have q1 : decide ((400 : Int) < s.length) = true := by simp; omega
    rw [decide_eq_false h1, Bool.false_and, Bool.false_and]
    generalize parts s = l at *
    go_enter Tryd.func11, Tryd.ntmps11
    go_wp2_with (fail)
    refine HP.out.mono ?_
    rintro e w1 ⟨A, c, rfl, hc, hm, hr, hw1, hA0⟩
    go_wp2_with (fail)
    go_ret
    exact ⟨rfl, hw1⟩
end Go.Proofs.YtgppfcaghjbjmaaDoor
