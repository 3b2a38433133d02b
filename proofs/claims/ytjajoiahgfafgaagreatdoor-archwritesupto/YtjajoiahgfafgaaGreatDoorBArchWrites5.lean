/- Texts joined: NameRef, NameRefB, TextsSame, Fold, NameRef2, TreeR, TreeR2. -/
import Derived.Test.YtjajoiahgfafgaaGreatDoorBArchWrites4
import Derived.Test.YtjajoiahgfafgaaGreatDoorBArchWrites2
import Derived.Test.YtjajoiahgfafgaaGreatDoorBCodeBaseC1
import Derived.Deep.QuietTactic
import Derived.BigQuiet
import Derived.Test.YtjajoiahgfafgaaGreatDoorBArchWrites3
set_option linter.unusedSimpArgs false
set_option linter.unusedVariables false

/- hawserref01: Name, Parts, Path. -/
section
namespace Go.Proofs.YtjajoiahgfafgaaGreatDoor
open Go.RowKit Plain

theorem anyM_take (s : List UInt8) (k : Nat) (h : k < s.length) : anyM (s.take (k + 1)) = (anyM (s.take k) || s[k] == 47 || s[k] == 0) := by
  unfold anyM
  rw [List.take_succ_eq_append_getElem h]
  simp only [List.contains_append, List.contains_cons, List.contains_nil, Bool.or_false]
  rw [show ((47 : UInt8) == s[k]) = (s[k] == 47) by rw [Bool.eq_iff_iff]; simp only [beq_iff_eq]; exact eq_comm, show ((0 : UInt8) == s[k]) = (s[k] == 0) by rw [Bool.eq_iff_iff]; simp only [beq_iff_eq]; exact eq_comm]
  cases (s.take k).contains 47 <;> cases (s.take k).contains 0 <;> cases s[k] == 47 <;> cases s[k] == 0 <;> rfl
theorem anyM_le (s : List UInt8) (k : Nat) (h : anyM (s.take k) = true) : anyM s = true := by
  unfold anyM at h ⊢
  simp only [Bool.or_eq_true, List.contains_iff_mem] at h ⊢
  rcases h with h | h
  · exact .inl (List.mem_of_mem_take h)
  · exact .inr (List.mem_of_mem_take h)

theorem mem_sum : ∀ {l : List (List UInt8)} {x : List UInt8}, x ∈ l → x.length ≤ (l.map List.length).sum
  | [], _, h => by cases h
  | y :: l, x, h => by
    rcases List.mem_cons.1 h with rfl | h
    · simp
    · have := mem_sum h; simp; omega
set_option maxRecDepth 100000 in
set_option maxHeartbeats 2000000 in
theorem Name_ref (s : List UInt8) (w : World) (hs : s.length ≤ 9223372036854775806) :
    Calls Tryz.prog 106 #[.string ⟨s.toArray⟩] w (Ret w (.bool (nameOK s))) := by
  rw [nameOK_any]
  by_cases h1 : s.length ≤ 64
  · have hc1 : decide ((64 : Int) < s.length) = false := by simp; omega
    have hc1' : decide (s.length ≤ 64) = true := by simp; omega
    rw [hc1']
    have HV := Lib.hid (fun W => Valid_ref s W (by omega))
    obtain ⟨b0, h0⟩ : ∃ b, s.isEmpty = b := ⟨_, rfl⟩
    obtain ⟨b2, h2⟩ : ∃ b, (s == [46]) = b := ⟨_, rfl⟩
    obtain ⟨b3, h3⟩ : ∃ b, (s == [46, 46]) = b := ⟨_, rfl⟩
    rw [h0, h2, h3]
    clear hc1'
    cases b0 with
    | true =>
      have hl : s.length = 0 := by cases s <;> simp_all
      have hd : decide ((s.length : Int) < 1) = true := by simp; omega
      have HA := Lib.hid hl
      clear hl
      go_enter Tryz.func106, Tryz.ntmps106
      go_wp2_with (fail)
      go_ret
      exact ⟨rfl, Below.refl _ _⟩
    | false =>
      have hl : 1 ≤ s.length := by cases s <;> simp_all
      have hd : decide ((s.length : Int) < 1) = false := by simp; omega
      cases b2 with
      | true =>
        go_enter Tryz.func106, Tryz.ntmps106
        go_wp2_with (fail)
        go_ret
        exact ⟨rfl, Below.refl _ _⟩
      | false =>
        cases b3 with
        | true =>
          go_enter Tryz.func106, Tryz.ntmps106
          go_wp2_with (fail)
          go_ret
          exact ⟨rfl, Below.refl _ _⟩
        | false =>
          generalize Lib.validD s = bv at *
          cases bv with
          | false =>
            go_enter Tryz.func106, Tryz.ntmps106
            go_wp2_with (fail)
            refine (HV.out _).mono ?_
            rintro e w1 ⟨rfl, hw1⟩
            go_wp2_with (fail)
            go_ret
            exact ⟨rfl, hw1⟩
          | true =>
            go_enter Tryz.func106, Tryz.ntmps106
            go_wp2_with (fail)
            refine (HV.out _).mono ?_
            rintro e w1 ⟨rfl, hw1⟩
            go_wp2_with (fail)
            go_loopw [3] (fun t3 W => ∃ k : Nat, k ≤ s.length ∧ t3 = .int .i64 k ∧ Hid (anyM (s.take k) = false) ∧ W = w1) (fun t3 _ => s.length - (intOf t3).toNat)
            case atStart => exact ⟨0, by omega, rfl, Lib.hid rfl, rfl⟩
            case round =>
              obtain ⟨k, hk, rfl, HN, rfl⟩ := hrel
              have i0 : (0 : Int) ≤ k := by omega
              by_cases hlt : k < s.length
              · have i1 : (k : Int) < s.length := by omega
                have ht := anyM_take s k hlt
                rw [HN.out, Bool.false_or] at ht
                have hg : (ByteArray.mk s.toArray)[k]'(by simpa [ByteArray.size] using hlt) = s[k] := rfl
                generalize s[k] = x at *
                have HT := Lib.hid ht
                by_cases e1 : x = 0
                · have HA := Lib.hid (anyM_le s (k + 1) (by rw [ht, e1]; rfl))
                  have hB : ((x.toNat : Int) == 0) = true := by rw [e1]; rfl
                  clear ht e1
                  go_wp2_with (fail)
                  go_ret
                  exact ⟨by rw [HA.out]; rfl, hw1⟩
                · have hB : ((x.toNat : Int) == 0) = false := by simp; exact fun h => e1 (UInt8.toNat.inj (by simpa using h))
                  by_cases e2 : x = 47
                  · have HA := Lib.hid (anyM_le s (k + 1) (by rw [ht, e2]; rfl))
                    have hB2 : ((x.toNat : Int) == 47) = true := by rw [e2]; rfl
                    clear ht e1 e2
                    go_wp2_with (fail)
                    go_ret
                    exact ⟨by rw [HA.out]; rfl, hw1⟩
                  · have hB2 : ((x.toNat : Int) == 47) = false := by
                      simp only [beq_eq_false_iff_ne, ne_eq]
                      exact fun h => e2 (UInt8.toNat.inj (by simp; omega))
                    have HF := Lib.hid (show anyM (s.take (k + 1)) = false by rw [ht]; simp [e1, e2])
                    clear ht e1 e2
                    go_wp2_with (fail)
                    go_roundw
                    case rel => exact ⟨k + 1, by omega, by go_num, HF, by first | trivial | rfl⟩
                    case measure => simp [intOf]; omega
              · obtain rfl : k = s.length := by omega
                have hn := HN.out
                rw [List.take_of_length_le (Nat.le_refl _)] at hn
                have HX := Lib.hid hn
                clear hn HN
                go_wp2_with (fail)
                go_ret
                exact ⟨by rw [HX.out]; rfl, hw1⟩
  · have hc1 : decide ((64 : Int) < s.length) = true := by simp; omega
    have hc1' : decide (s.length ≤ 64) = false := by simp; omega
    rw [hc1']
    have hd : decide ((s.length : Int) < 1) = false := by simp; omega
    clear hc1'
    go_enter Tryz.func106, Tryz.ntmps106
    go_wp2_with (fail)
    go_ret
    exact ⟨by simp, Below.refl _ _⟩

set_option maxRecDepth 100000 in
set_option maxHeartbeats 2000000 in
theorem Parts_ref (s : List UInt8) (w : World) (hs : s.length ≤ 8796093022200) :
    Calls Tryz.prog 105 #[.string ⟨s.toArray⟩] w (StrsOut w (parts s)) := by
  obtain ⟨i0, hi, hz0, hz1, hz2⟩ := info_parts info_string
  show Calls _ _ _ _ (StrsOut w (cutAt 47 [] s))
  go_enter Tryz.func105, Tryz.ntmps105
  go_wp2_with (fail)
  go_loopw [3, 4, 5] (fun t3 t4 t5 W => ∃ (i f : Nat) (d : List (List UInt8)), i ≤ s.length + 1 ∧ f ≤ i ∧ d.length ≤ i ∧ t5 = .int .i64 i ∧ t4 = .int .i64 f ∧ W.ownsRow w.heap.size 9 1 t3 d.length (strs d) ∧
    Hid ((i ≤ s.length → cutAt 47 [] (s.take i) = d ++ [(s.take i).drop f]) ∧ (i = s.length + 1 → cutAt 47 [] s = d)) ∧ Hid (Below w.heap.size w W)) (fun _ _ t5 _ => s.length + 1 - (intOf t5).toNat)
  case atStart => exact ⟨0, 0, [], by omega, by omega, by simp, rfl, rfl, World.ownsRow_nil _ _ _ _, Lib.hid ⟨fun _ => by simp [cutAt], fun h => by omega⟩, Lib.hid (Below.refl _ _)⟩
  case round =>
    obtain ⟨i, f, d, hi1, hf, hd, rfl, rfl, hown, HC, HB⟩ := hrel
    have hsw := HB.out.size
    have hi0 : (0 : Int) ≤ i := by omega
    by_cases hlt : i < s.length
    · have q1 : decide ((i : Int) ≤ s.length) = true := by simp; omega
      have q2 : ((i : Int) == s.length) = false := by simp; omega
      have hsn := cutAt_snoc 47 [] s[i] _ _ _ (HC.out.1 (by omega))
      rw [← List.take_succ_eq_append_getElem hlt] at hsn
      have hdr : (s.take (i + 1)).drop f = (s.take i).drop f ++ [s[i]] := by
        rw [List.take_succ_eq_append_getElem hlt, List.drop_append_of_le_length (by simp; omega)]
      have hcut : (s.drop f).take (i - f) = (s.take i).drop f := by rw [List.drop_take]
      have i1 : (i : Int) < s.length := by omega
      have hgb : (ByteArray.mk s.toArray)[i]'(by simpa [ByteArray.size] using hlt) = s[i] := rfl
      generalize hc : s[i] = c at *
      have HCUT := Lib.hid hcut
      clear hcut
      by_cases h47 : c = 47
      · rw [if_pos h47, List.append_nil] at hsn
        have HSN := Lib.hid hsn
        have hB : ((c.toNat : Int) == 47) = true := by rw [h47]; rfl
        clear hsn h47 hdr
        generalize hpp : (s.drop f).take (i - f) = p at HCUT
        go_wp2_with (at_builtin; refine wpList_append_own _ rfl _ _ 93 rfl w.heap.size 9 i0 _ 1 16 Tryz.underlying93 hi hz0 hz1 hz2 rfl (by decide) _ _ _ rfl (hown.alloc _) ⟨wr.heap.size, 0, none⟩ 1 1 [.string ⟨p.toArray⟩] rfl rfl (laid_one _ _ _) (one_oneCell rfl) ?c3 ?c4 ?c5 ?_)
        case c3 => unfold maxLen; omega
        case c4 => omega
        case c5 => simp; omega
        intro v1 w1 hown1 hg1 _
        have hb1 : Below w.heap.size w w1 := (HB.out.alloc hsw _).grown hg1 (by simp; omega) (fun k hk => (hown.lt k hk).1)
        have hown2 : w1.ownsRow w.heap.size 9 1 v1 (d ++ [p]).length (strs (d ++ [p])) := by
          rw [strs_append, List.length_append]; exact hown1
        have HB1 := Lib.hid hb1
        clear hg1 hb1 hown1 hpp
        go_wp2_with (fail)
        go_roundw
        case rel =>
          refine ⟨i + 1, i + 1, d ++ [p], by omega, by omega, by simp; omega, by go_num, by go_num, hown2, Lib.hid ⟨fun _ => ?_, fun h => by omega⟩, HB1⟩
          have h1 := HSN.out
          rw [← HCUT.out] at h1
          rw [h1, List.drop_eq_nil_of_le (by simp; omega)]; simp
        case measure => simp [intOf]; omega
      · rw [if_neg h47, ← hdr] at hsn
        have HSN := Lib.hid hsn
        have hB : ((c.toNat : Int) == 47) = false := by
          simp only [beq_eq_false_iff_ne, ne_eq]
          intro e; exact h47 (UInt8.toNat.inj (by simp; omega))
        clear hsn h47 hdr
        go_wp2_with (fail)
        go_roundw
        case rel => exact ⟨i + 1, f, d, by omega, by omega, by omega, by go_num, rfl, hown, Lib.hid ⟨fun _ => HSN.out, fun h => by omega⟩, HB⟩
        case measure => simp [intOf]; omega
    · by_cases he : i = s.length
      · have q1 : decide ((i : Int) ≤ s.length) = true := by simp; omega
        have q2 : ((i : Int) == s.length) = true := by simp; omega
        have hcs := HC.out.1 (by omega)
        have hcut : (s.drop f).take (i - f) = (s.take i).drop f := by rw [List.drop_take]
        rw [← hcut] at hcs
        rw [he, List.take_of_length_le (Nat.le_refl _), ← he] at hcs
        have HCS := Lib.hid hcs
        have i1 : (i : Int) ≤ s.length := by omega
        have HE := Lib.hid he
        clear hcs hcut he
        generalize hpp : (s.drop f).take (i - f) = p at HCS
        go_wp2_with (at_builtin; refine wpList_append_own _ rfl _ _ 93 rfl w.heap.size 9 i0 _ 1 16 Tryz.underlying93 hi hz0 hz1 hz2 rfl (by decide) _ _ _ rfl (hown.alloc _) ⟨wr.heap.size, 0, none⟩ 1 1 [.string ⟨p.toArray⟩] rfl rfl (laid_one _ _ _) (one_oneCell rfl) ?d3 ?d4 ?d5 ?_)
        case d3 => unfold maxLen; omega
        case d4 => omega
        case d5 => simp; omega
        intro v1 w1 hown1 hg1 _
        have hb1 : Below w.heap.size w w1 := (HB.out.alloc hsw _).grown hg1 (by simp; omega) (fun k hk => (hown.lt k hk).1)
        have hown2 : w1.ownsRow w.heap.size 9 1 v1 (d ++ [p]).length (strs (d ++ [p])) := by
          rw [strs_append, List.length_append]; exact hown1
        have HB1 := Lib.hid hb1
        clear hg1 hb1 hown1 hpp
        go_wp2_with (fail)
        go_roundw
        case rel => exact ⟨i + 1, i + 1, d ++ [p], by have := HE.out; omega, by omega, by simp; omega, by go_num, by go_num, hown2, Lib.hid ⟨fun h => by have := HE.out; omega, fun _ => HCS.out⟩, HB1⟩
        case measure => have := HE.out; simp [intOf]; omega
      · have hi' : i = s.length + 1 := by omega
        have q1 : decide ((i : Int) ≤ s.length) = false := by simp; omega
        have q1n : decide (i ≤ s.length) = false := by simp; omega
        have q1i : (s.length : Int) < i := by omega
        have hcs := HC.out.2 hi'
        have HCS := Lib.hid hcs
        obtain ⟨A, c, rfl, hc, hm, hr, hA0⟩ := of_own0 hown
        have HR := Lib.hid hr
        clear hown hr hcs hi' he
        go_wp2_with (fail)
        go_ret
        exact ⟨A, c, by rw [HCS.out]; rfl, by rw [HCS.out]; exact hc, hm, by rw [HCS.out]; exact HR.out, HB.out, hA0⟩

set_option maxRecDepth 100000 in
set_option maxHeartbeats 2000000 in
theorem Path_ref (s : List UInt8) (w : World) (hs : s.length ≤ 8796093022200) :
    Calls Tryz.prog 79 #[.string ⟨s.toArray⟩] w (Ret w (.bool (pathOK s))) := by
  have HP := Lib.hid (Parts_ref s w hs)
  have hpl := parts_length s
  have hcl := List.count_le_length (a := (47 : UInt8)) (l := s)
  unfold pathOK
  by_cases h1 : s.length ≤ 400
  · have q1 : decide ((400 : Int) < s.length) = false := by simp; omega
    have hmem : ∀ x ∈ parts s, x.length ≤ 9223372036854775806 := fun x hx => by
      have hj := join_length (parts s)
      rw [join_parts] at hj
      have := mem_sum hx
      omega
    rw [decide_eq_true h1, Bool.true_and]
    have HME := Lib.hid hmem
    clear hmem
    generalize parts s = l at *
    by_cases h2 : l.length ≤ 16
    · have q2 : decide ((16 : Int) < l.length) = false := by simp; omega
      rw [decide_eq_true h2, Bool.true_and]
      go_enter Tryz.func79, Tryz.ntmps79
      go_wp2_with (fail)
      refine HP.out.mono ?_
      rintro e w1 ⟨A, c, rfl, hc, hm, hr, hw1, hA0⟩
      have HR := Lib.hid hr
      clear hr
      go_wp2_with (fail)
      go_loopw [4] (fun t4 W => ∃ k : Nat, k ≤ l.length ∧ t4 = .int .i64 k ∧ Hid ((l.take k).all nameOK = true) ∧ Hid (Below w1.heap.size w1 W)) (fun t4 _ => l.length - (intOf t4).toNat)
      case atStart => exact ⟨0, by omega, rfl, Lib.hid rfl, Lib.hid (Below.refl _ _)⟩
      case round =>
        obtain ⟨k, hk, rfl, HN, HB⟩ := hrel
        have i0 : (0 : Int) ≤ k := by omega
        have hbel := HB.out
        by_cases hlt : k < l.length
        · obtain ⟨ad, rfl, cS⟩ := (HR.out.below hbel).str_at hlt
          have i1 : (k : Int) < l.length := by omega
          have ht : (l.take (k + 1)).all nameOK = nameOK l[k] := by
            rw [List.take_succ_eq_append_getElem hlt, List.all_append, HN.out]; simp
          have HMM := Lib.hid (List.getElem_mem hlt)
          have hN := Name_ref l[k] wr (HME.out _ (List.getElem_mem hlt))
          have hall : l.all nameOK = true → nameOK l[k] = true := fun h => List.all_eq_true.1 h _ (List.getElem_mem hlt)
          generalize l[k] = x at *
          have HT := Lib.hid ht
          have HALL := Lib.hid hall
          clear hbel ht hall
          cases hx : nameOK x with
          | true =>
            rw [hx] at hN HT
            have HNN := Lib.hid hN
            clear hN hx
            go_wp2_with (fail)
            refine HNN.out.mono ?_
            rintro e w2 ⟨rfl, hw2⟩
            have HB2 := Lib.hid (HB.out.trans (hw2.mono HB.out.size))
            clear hw2
            go_wp2_with (fail)
            go_roundw
            case rel => exact ⟨k + 1, by omega, by go_num, HT, HB2⟩
            case measure => simp [intOf]; omega
          | false =>
            rw [hx] at hN
            have HNN := Lib.hid hN
            have HF := Lib.hid (show l.all nameOK = false by
              rw [← Bool.not_eq_true]; intro h; have := HALL.out h; rw [hx] at this; cases this)
            clear hN hx
            go_wp2_with (fail)
            refine HNN.out.mono ?_
            rintro e w2 ⟨rfl, hw2⟩
            go_wp2_with (fail)
            go_ret
            exact ⟨by rw [HF.out]; rfl, hw1.trans ((HB.out.trans (hw2.mono HB.out.size)).mono hw1.size)⟩
        · obtain rfl : k = l.length := by omega
          have hn := HN.out
          rw [List.take_of_length_le (Nat.le_refl _)] at hn
          have HX := Lib.hid hn
          clear hn HN hbel
          go_wp2_with (fail)
          go_ret
          exact ⟨by rw [HX.out]; rfl, hw1.trans (HB.out.mono hw1.size)⟩
    · have q2 : decide ((16 : Int) < l.length) = true := by simp; omega
      rw [decide_eq_false h2, Bool.false_and]
      go_enter Tryz.func79, Tryz.ntmps79
      go_wp2_with (fail)
      refine HP.out.mono ?_
      rintro e w1 ⟨A, c, rfl, hc, hm, hr, hw1, hA0⟩
      go_wp2_with (fail)
      go_ret
      exact ⟨rfl, hw1⟩
  · have q1 : decide ((400 : Int) < s.length) = true := by simp; omega
    rw [decide_eq_false h1, Bool.false_and, Bool.false_and]
    generalize parts s = l at *
    go_enter Tryz.func79, Tryz.ntmps79
    go_wp2_with (fail)
    refine HP.out.mono ?_
    rintro e w1 ⟨A, c, rfl, hc, hm, hr, hw1, hA0⟩
    go_wp2_with (fail)
    go_ret
    exact ⟨rfl, hw1⟩
end Go.Proofs.YtjajoiahgfafgaaGreatDoor
end

/- hawserref01.Split, Parent, Base. -/
section
namespace Go.Proofs.YtjajoiahgfafgaaGreatDoor
open Go.RowKit Plain

theorem Split_ref (s : List UInt8) (w : World) (hs : s.length ≤ 8796093022200) :
    Calls Tryz.prog 108 #[.string ⟨s.toArray⟩] w (StrsOut w (splitM s)) := by
  have hp := Path_ref s w hs
  have HS := Lib.hid (fun W => Parts_ref s W hs)
  unfold splitM
  generalize parts s = l at *
  cases hok : pathOK s with
  | false =>
    rw [hok] at hp
    have HP := Lib.hid hp
    clear hp hok
    go_enter Tryz.func108, Tryz.ntmps108
    go_wp2_with (fail)
    refine HP.out.mono ?_
    rintro e w1 ⟨rfl, hw1⟩
    go_wp2_with (fail)
    go_ret
    exact ⟨none, 0, rfl, Nat.le_refl _, Nat.zero_le _, Reads.nil _ _ _, hw1, fun _ => rfl⟩
  | true =>
    rw [hok] at hp
    have HP := Lib.hid hp
    clear hp hok
    rw [if_pos rfl]
    go_enter Tryz.func108, Tryz.ntmps108
    go_wp2_with (fail)
    refine HP.out.mono ?_
    rintro e w1 ⟨rfl, hw1⟩
    go_wp2_with (fail)
    refine (HS.out _).mono ?_
    rintro e w2 ⟨A, c, rfl, hc, hm, hr, hw2, h0⟩
    go_wp2_with (fail)
    go_ret
    exact ⟨A, c, rfl, hc, hm, hr, hw1.trans (hw2.mono hw1.size), h0⟩

theorem splitM_length (s : List UInt8) : (splitM s).length ≤ 401 := by
  unfold splitM
  split
  · rename_i h
    have := pathOK_len h
    have := List.count_le_length (a := (47 : UInt8)) (l := s)
    rw [parts_length]; omega
  · simp
theorem Parent_ref (s : List UInt8) (w : World) (hs : s.length ≤ 8796093022200) :
    Calls Tryz.prog 82 #[.string ⟨s.toArray⟩] w (Ret w (.string ⟨(parentM s).toArray⟩)) := by
  have hS := Split_ref s w hs
  by_cases hok : pathOK s = true
  · by_cases h47 : 47 ∈ s
    · obtain ⟨p, q, rfl, hq⟩ := last_cut h47
      have hsp : splitM (p ++ 47 :: q) = parts p ++ [q] := by unfold splitM; rw [if_pos hok, parts_last p q hq]
      rw [hsp] at hS
      have hpar := parent_cut p q hq hok
      have hpn : 1 ≤ (parts p).length := by rw [parts_length]; omega
      have hpn2 := splitM_length (p ++ 47 :: q)
      rw [hsp, List.length_append, List.length_singleton] at hpn2
      have hll : (parts p ++ [q]).length = (parts p).length + 1 := by simp
      have hget : (strs (parts p ++ [q]))[(parts p).length]? = some (.string ⟨q.toArray⟩) := by
        simp [strs, strV]
      have htk : (p ++ 47 :: q).take p.length = p := by simp
      have hlen : ((p ++ 47 :: q).length : Int) = p.length + 1 + q.length := by simp; omega
      have h400 := pathOK_len hok
      have hq400 : p.length + 1 + q.length ≤ 400 := by simp at h400; omega
      unfold StrsOut at hS
      rw [hll] at hS
      generalize parts p = L at *
      have HS := Lib.hid hS
      have HPAR := Lib.hid hpar
      have HGET := Lib.hid hget
      clear hS hpar hok h47 hq hsp hget hll h400
      go_enter Tryz.func82, Tryz.ntmps82
      go_wp2_with (fail)
      refine HS.out.mono ?_
      rintro e w1 ⟨A, c, rfl, hc, hm, hr, hw1, hA0⟩
      obtain ⟨ad, rfl, hcell⟩ := hr.2 (by omega)
      have hc1 := hcell _ _ HGET.out
      have e1 : IntKind.i64.wrap ((L.length : Int) + 1 - 1) = (L.length : Int) := by rw [show (L.length : Int) + 1 - 1 = L.length by omega]; exact IntWalk.i64_in _ (by omega)
      have i1 : (L.length : Int) < (L.length : Int) + 1 := by omega
      clear hr hcell
      go_wp2_with (fail)
      go_ret
      exact ⟨by rw [HPAR.out]; simp; rw [show p.length + (q.length + 1) - q.length - 1 = p.length by omega]; exact htk, hw1⟩
    · have hsp : splitM s = [s] := by unfold splitM; rw [if_pos hok, parts_none s h47]
      rw [hsp] at hS
      rw [parent_none h47]
      have HS := Lib.hid hS
      clear hS hok h47 hsp
      go_enter Tryz.func82, Tryz.ntmps82
      go_wp2_with (fail)
      refine HS.out.mono ?_
      rintro e w1 ⟨A, c, rfl, hc, hm, hr, hw1, hA0⟩
      go_wp2_with (fail)
      go_ret
      exact ⟨rfl, hw1⟩
  · have hf : pathOK s = false := by simpa using hok
    have hsp : splitM s = [] := by unfold splitM; rw [hf]; rfl
    have hpar : parentM s = [] := by unfold parentM; rw [hf]; rfl
    rw [hsp] at hS
    rw [hpar]
    have HS := Lib.hid hS
    clear hS hok hf hsp hpar
    go_enter Tryz.func82, Tryz.ntmps82
    go_wp2_with (fail)
    refine HS.out.mono ?_
    rintro e w1 ⟨A, c, rfl, hc, hm, hr, hw1, hA0⟩
    go_wp2_with (fail)
    go_ret
    exact ⟨rfl, hw1⟩

end Go.Proofs.YtjajoiahgfafgaaGreatDoor
end

/- hawserref01.Texts at two slices that read alike. -/
section
namespace Go.Proofs.YtjajoiahgfafgaaGreatDoor
open Go.RowKit

end Go.Proofs.YtjajoiahgfafgaaGreatDoor
end

/- name.Fold, name.Clash. -/
section
namespace Go.Proofs.YtjajoiahgfafgaaGreatDoor
open Go.RowKit Plain

/-- a text k bytes of which have been made small -/
def foldAt (s : List UInt8) (k : Nat) : List UInt8 := (s.take k).map lowB ++ s.drop k
theorem foldAt_length (s : List UInt8) (k : Nat) : (foldAt s k).length = s.length := by unfold foldAt; simp; omega
theorem foldAt_zero (s : List UInt8) : foldAt s 0 = s := by simp [foldAt]
theorem foldAt_end (s : List UInt8) : foldAt s s.length = foldM s := by simp [foldAt, foldM]
theorem foldAt_get (s : List UInt8) (k : Nat) (h : k < s.length) : (foldAt s k)[k]'(by rw [foldAt_length]; exact h) = s[k] := by
  unfold foldAt
  rw [List.getElem_append_right (by simp; omega)]
  simp [Nat.min_eq_left (Nat.le_of_lt h)]
theorem foldAt_step (s : List UInt8) (k : Nat) (h : k < s.length) : foldAt s (k + 1) = (foldAt s k).set k (lowB s[k]) := by
  unfold foldAt
  rw [List.take_succ_eq_append_getElem h, List.map_append, List.append_assoc]
  rw [List.set_append_right _ _ (by simp; omega)]
  have e : k - (List.map lowB (List.take k s)).length = 0 := by simp; omega
  rw [e, List.drop_eq_getElem_cons h]
  rfl
theorem foldAt_same (s : List UInt8) (k : Nat) (h : k < s.length) (e : lowB s[k] = s[k]) : foldAt s (k + 1) = foldAt s k := by
  rw [foldAt_step s k h, e]
  conv => lhs; rw [← foldAt_get s k h]
  exact List.set_getElem_self _
theorem lowB_toNat (x : UInt8) (h1 : 65 ≤ x.toNat) (h2 : x.toNat ≤ 90) : lowB x = UInt8.ofNat (x.toNat + 32) := by
  unfold lowB
  rw [if_pos ⟨UInt8.le_iff_toNat_le.2 (by simpa using h1), UInt8.le_iff_toNat_le.2 (by simpa using h2)⟩]
  apply UInt8.toNat.inj
  simp [UInt8.toNat_add]
theorem lowB_out (x : UInt8) (h : x.toNat < 65 ∨ 90 < x.toNat) : lowB x = x := by
  unfold lowB
  rw [if_neg]
  rintro ⟨h1, h2⟩
  have h1 := UInt8.le_iff_toNat_le.1 h1
  have h2 := UInt8.le_iff_toNat_le.1 h2
  simp at h1 h2
  omega
theorem frozen_mark {W : World} {b cap j : Nat} {C : Array Value} {e : TypeId} (hb : W.heap[b]? = some (.cells C e (cap, cap + 1))) (h : j < cap) : W.frozen? ⟨b, j, none⟩ = false := by
  unfold World.frozen?
  rw [hb]
  simp; omega


/-- do two texts differ in their letters' size alone? -/
def clashB (p q : List UInt8) : Bool := !(p == q) && foldM p == foldM q


/-- the first that clashes with p; -1: none -/
def FirstOut (p : List UInt8) (l : List (List UInt8)) (w : World) (e : Ending) (w' : World) : Prop :=
  ∃ i : Int, e = .returned (.int .i64 i) ∧ ((∃ k : Nat, i = k ∧ k < l.length ∧ clashB p (l.getD k []) = true) ∨ (i = -1 ∧ ∀ k, k < l.length → clashB p (l.getD k []) = false)) ∧ Below w.heap.size w w'


def ClashP (l : List (List UInt8)) (i j : Int) : Prop :=
  (∃ i' j' : Nat, i = i' ∧ j = j' ∧ i' < j' ∧ j' < l.length ∧ clashB (l.getD j' []) (l.getD i' []) = true) ∨ (i = -1 ∧ j = -1 ∧ ∀ j' i', i' < j' → j' < l.length → clashB (l.getD j' []) (l.getD i' []) = false)
def ClashOut (l : List (List UInt8)) (w : World) (e : Ending) (w' : World) : Prop :=
  ∃ i j : Int, e = .returned (.tuple #[.int .i64 i, .int .i64 j]) ∧ ClashP l i j ∧ Below w.heap.size w w'

end Go.Proofs.YtjajoiahgfafgaaGreatDoor
end

/- hawserref01: Split, Parent, Base, Fold, Order, Within. -/
section
namespace Go.Proofs.YtjajoiahgfafgaaGreatDoor
open Go.RowKit Plain

theorem foldM_take (s : List UInt8) (k : Nat) (h : k < s.length) : foldM (s.take (k + 1)) = foldM (s.take k) ++ [lowB s[k]] := by
  unfold foldM; rw [List.take_succ_eq_append_getElem h, List.map_append]; rfl
theorem info_byte01 : (Tryz.prog.info? 5).map (fun i => (i.zero, i.size, i.bytes)) = some (some (.int .u8 0), 1, 1) := by kernel_rfl


theorem orderP_drop (X Y : List (List UInt8)) (k : Nat) (h1 : k < X.length) (h2 : k < Y.length) : orderP (X.drop k) (Y.drop k) = if X[k] < Y[k] then -1 else if Y[k] < X[k] then 1 else orderP (X.drop (k + 1)) (Y.drop (k + 1)) := by
  rw [List.drop_eq_getElem_cons h1, List.drop_eq_getElem_cons h2]; rfl

set_option maxHeartbeats 2000000 in
theorem Order_ref (a b : List UInt8) (w : World) (ha : a.length ≤ 8796093022200) (hb : b.length ≤ 8796093022200) :
    Calls Tryz.prog 83 #[.string ⟨a.toArray⟩, .string ⟨b.toArray⟩] w (Ret w (.int .i64 (orderM a b))) := by
  have HPA := Lib.hid (Parts_ref a w ha)
  have HPB := Lib.hid (fun W => Parts_ref b W hb)
  have hla := parts_length a
  have hlb := parts_length b
  have hca := List.count_le_length (a := (47 : UInt8)) (l := a)
  have hcb := List.count_le_length (a := (47 : UInt8)) (l := b)
  have HO := Lib.hid (show orderM a b = orderP (parts a) (parts b) from rfl)
  generalize orderM a b = res at *
  generalize parts a = X at *
  generalize parts b = Y at *
  have hX : X.length ≤ 8796093022201 := by omega
  have hY : Y.length ≤ 8796093022201 := by omega
  clear hla hlb hca hcb
  go_enter Tryz.func83, Tryz.ntmps83
  go_wp2_with (fail)
  refine HPA.out.mono ?_
  rintro e w1 ⟨A, ca, rfl, hca, hma, hra, hw1, hA0⟩
  go_wp2_with (fail)
  refine (HPB.out w1).mono ?_
  rintro e w2 ⟨B, cb, rfl, hcb, hmb, hrb, hw2, hB0⟩
  have HRA := Lib.hid (hra.below hw2)
  have HRB := Lib.hid hrb
  have HB2 := Lib.hid (hw1.trans (hw2.mono hw1.size))
  clear hra hrb hw1 hw2
  go_wp2_with (fail)
  go_loopw [7] (fun t7 W => ∃ k : Nat, k ≤ X.length ∧ k ≤ Y.length ∧ t7 = .int .i64 k ∧ Hid (orderP X Y = orderP (X.drop k) (Y.drop k)) ∧ Hid (Below w2.heap.size w2 W)) (fun t7 _ => X.length - (intOf t7).toNat)
  case atStart => exact ⟨0, by omega, by omega, rfl, Lib.hid (by simp), Lib.hid (Below.refl _ _)⟩
  case round =>
    obtain ⟨k, hk, hk2, rfl, HP, HB⟩ := hrel
    have i0 : (0 : Int) ≤ k := by omega
    have hbel := HB.out
    by_cases h1 : k < X.length
    · by_cases h2 : k < Y.length
      · obtain ⟨ad, rfl, cA⟩ := (HRA.out.below hbel).str_at h1
        obtain ⟨bd, rfl, cB⟩ := (HRB.out.below hbel).str_at h2
        have hod := orderP_drop X Y k h1 h2
        generalize X[k] = x at *
        generalize Y[k] = y at *
        have i1 : (k : Int) < X.length := by omega
        have i2 : (k : Int) < Y.length := by omega
        have j1 : decide ((k : Int) < X.length) = true := by simp; omega
        have j2 : decide ((k : Int) < Y.length) = true := by simp; omega
        have j3 : decide (k < X.length) = true := by simp; omega
        have j4 : decide (k < Y.length) = true := by simp; omega
        clear hbel
        by_cases hlt : x < y
        · rw [if_pos hlt] at hod
          have HR := Lib.hid (HP.out.trans hod)
          have b1 : Op.bytesLess x y = true := by rw [bl_lt]; exact decide_eq_true hlt
          clear hod hlt
          go_wp2_with (fail)
          go_quiet (fail)
          go_wp2_with (fail)
          go_ret
          exact ⟨by rw [HO.out, HR.out]; rfl, by first | exact HB2.out.trans ((below_drewN HB.out _).mono HB2.out.size) | exact HB2.out.trans ((below_drewN (below_drewN HB.out _) _).mono HB2.out.size)⟩
        · have b1 : Op.bytesLess x y = false := by rw [bl_lt]; exact decide_eq_false hlt
          rw [if_neg hlt] at hod
          by_cases hgt : y < x
          · rw [if_pos hgt] at hod
            have HR := Lib.hid (HP.out.trans hod)
            have b2 : (x == y) = false := by simp; rintro rfl; exact hlt hgt
            clear hod hlt hgt
            go_wp2_with (fail)
            go_quiet (fail)
            go_wp2_with (fail)
            go_quiet (fail)
            go_wp2_with (fail)
            go_ret
            exact ⟨by rw [HO.out, HR.out]; rfl, by first | exact HB2.out.trans ((below_drewN HB.out _).mono HB2.out.size) | exact HB2.out.trans ((below_drewN (below_drewN HB.out _) _).mono HB2.out.size)⟩
          · rw [if_neg hgt] at hod
            have HR := Lib.hid (HP.out.trans hod)
            have b2 : (x == y) = true := by simp; exact eq_of_not_lt hlt hgt
            clear hod hlt hgt
            go_wp2_with (fail)
            go_quiet (fail)
            go_wp2_with (fail)
            go_quiet (fail)
            go_wp2_with (fail)
            go_roundw
            case rel => exact ⟨k + 1, by omega, by omega, by go_num, HR, Lib.hid (below_drewN HB.out _)⟩
            case measure => simp [intOf]; omega
      · have hke : k = Y.length := by omega
        have hd : Y.drop k = [] := List.drop_eq_nil_of_le (by omega)
        have hne : X.drop k ≠ [] := by intro e; have := congrArg List.length e; simp at this; omega
        have HR := Lib.hid (show orderP X Y = 1 by rw [HP.out, hd]; exact orderP_nil' hne)
        have j1 : decide ((k : Int) < X.length) = true := by simp; omega
        have j2 : decide ((k : Int) < Y.length) = false := by simp; omega
        have j3 : decide (k < X.length) = true := by simp; omega
        have j4 : decide (k < Y.length) = false := by simp; omega
        have j5 : decide ((X.length : Int) < Y.length) = false := by simp; omega
        have j6 : decide (X.length < Y.length) = false := by simp; omega
        have j7 : decide ((Y.length : Int) < X.length) = true := by simp; omega
        have j8 : decide (Y.length < X.length) = true := by simp; omega
        clear hbel hd hne hke
        go_wp2_with (fail)
        go_ret
        exact ⟨by rw [HO.out, HR.out]; rfl, HB2.out.trans (HB.out.mono HB2.out.size)⟩
    · have hke : k = X.length := by omega
      have hd : X.drop k = [] := List.drop_eq_nil_of_le (by omega)
      have j1 : decide ((k : Int) < X.length) = false := by simp; omega
      have j3 : decide (k < X.length) = false := by simp; omega
      by_cases h2 : X.length < Y.length
      · have hne : Y.drop k ≠ [] := by intro e; have := congrArg List.length e; simp at this; omega
        have HR := Lib.hid (show orderP X Y = -1 by rw [HP.out, hd]; exact orderP_nil hne)
        have j5 : decide ((X.length : Int) < Y.length) = true := by simp; omega
        have j6 : decide (X.length < Y.length) = true := by simp; omega
        clear hbel hd hne hke
        go_wp2_with (fail)
        go_ret
        exact ⟨by rw [HO.out, HR.out]; rfl, HB2.out.trans (HB.out.mono HB2.out.size)⟩
      · have hd2 : Y.drop k = [] := List.drop_eq_nil_of_le (by omega)
        have HR := Lib.hid (show orderP X Y = 0 by rw [HP.out, hd, hd2]; rfl)
        have j5 : decide ((X.length : Int) < Y.length) = false := by simp; omega
        have j6 : decide (X.length < Y.length) = false := by simp; omega
        have j7 : decide ((Y.length : Int) < X.length) = false := by simp; omega
        have j8 : decide (Y.length < X.length) = false := by simp; omega
        clear hbel hd hd2 hke
        go_wp2_with (fail)
        go_ret
        exact ⟨by rw [HO.out, HR.out]; rfl, HB2.out.trans (HB.out.mono HB2.out.size)⟩

theorem prefix_take {X Y : List (List UInt8)} (h : Y.take Y.length = X.take Y.length) : Y.isPrefixOf X = true := by
  rw [List.isPrefixOf_iff_prefix]
  rw [List.take_of_length_le (Nat.le_refl _)] at h
  rw [h]; exact List.take_prefix _ _
theorem prefix_not {X Y : List (List UInt8)} {k : Nat} (h1 : k < X.length) (h2 : k < Y.length) (h : X[k] ≠ Y[k]) : Y.isPrefixOf X = false := by
  rw [← Bool.not_eq_true, List.isPrefixOf_iff_prefix]
  rintro ⟨t, rfl⟩
  exact h (by rw [List.getElem_append_left h2])
theorem prefix_short {X Y : List (List UInt8)} (h : X.length < Y.length) : Y.isPrefixOf X = false := by
  rw [← Bool.not_eq_true, List.isPrefixOf_iff_prefix]
  intro hp
  have := hp.length_le
  omega

end Go.Proofs.YtjajoiahgfafgaaGreatDoor
end

/- The document's tree: right, find, dir, Check. -/
section
set_option linter.unusedVariables false
namespace Go.Proofs.YtjajoiahgfafgaaGreatDoor
open Go.RowKit Plain

namespace Plain
theorem findN_first {t : List Nd} {s : List UInt8} {k : Nat} (hk : k < t.length) (h1 : ∀ j, j < k → (t.getD j default).path ≠ s) (h2 : (t.getD k default).path = s) : findN t s = some (t.getD k default) := by
  unfold findN
  rw [List.getD_eq_getElem?_getD, List.getElem?_eq_getElem hk, Option.getD_some] at h2 ⊢
  refine List.find?_eq_some_iff_getElem.2 ⟨by simpa using h2, k, hk, rfl, fun j hj => ?_⟩
  have := h1 j hj
  rw [List.getD_eq_getElem?_getD, List.getElem?_eq_getElem (by omega), Option.getD_some] at this
  simpa using this
theorem contains_at {d : List UInt8} {i : Nat} (h : i < d.length) : (d.drop i).contains 0 = ((d[i] == 0) || (d.drop (i + 1)).contains 0) := by
  rw [List.drop_eq_getElem_cons h, List.contains_cons, show ((0 : UInt8) == d[i]) = (d[i] == 0) from Bool.beq_comm]
end Plain

set_option maxHeartbeats 2000000 in
set_option maxRecDepth 100000 in
theorem rright_any (n : Nd) (w : World) (hd : n.data.length ≤ 9223372036854775807) : Calls Tryz.prog 80 #[.agg (ndV n).toArray] w (Ret w (.bool (rightN n))) := by
  obtain ⟨p, k, d, m⟩ := n
  unfold rightN ndV
  simp only at hd ⊢
  obtain ⟨w1, hw1⟩ : ∃ w1, w.alloc (.cells #[.string ⟨p.toArray⟩, .int .i64 k, .string ⟨d.toArray⟩, .int .i64 m] 41) = w1 := ⟨_, rfl⟩
  have HW1 := Lib.hid hw1
  have HB1 := Lib.hid (show Below w.heap.size w w1 by rw [← hw1]; exact (Below.refl w.heap.size w).alloc (Nat.le_refl _) _)
  have hr := (show w1.heap[w.heap.size]? = some (.cells #[.string ⟨p.toArray⟩, .int .i64 k, .string ⟨d.toArray⟩, .int .i64 m] 41 (0, 0)) by rw [← hw1]; exact heap_alloc_new _ _)
  have c1 := cell_of_row w1 _ 1 _ _ _ hr
  have c2 := cell_of_row w1 _ 2 _ _ _ hr
  have c3 := cell_of_row w1 _ 3 _ _ _ hr
  clear hw1 hr
  by_cases h1 : k = 1
  · subst h1
    go_enter Tryz.func80, Tryz.ntmps80
    go_upto_region 1 with (fail)
    rw [HW1.out]
    go_wp2_with (fail)
    all_goals
      go_ret
      exact ⟨by first | (simp_all; done) | (simp; omega) | (simp_all; omega), HB1.out⟩
  · by_cases h2 : k = 2
    · subst h2
      cases d with
      | nil =>
        go_enter Tryz.func80, Tryz.ntmps80
        go_upto_region 1 with (fail)
        rw [HW1.out]
        go_wp2_with (fail)
        all_goals
          go_ret
          exact ⟨by first | (simp_all; done) | (simp; omega) | (simp_all; omega), HB1.out⟩
      | cons x r =>
        go_enter Tryz.func80, Tryz.ntmps80
        go_upto_region 1 with (fail)
        rw [HW1.out]
        go_wp2_with (fail)
        all_goals
          go_ret
          exact ⟨by first | (simp_all; done) | (simp; omega) | (simp_all; omega), HB1.out⟩
    · by_cases h3 : k = 3
      · subst h3
        rw [if_neg (by decide), if_neg (by decide), if_pos rfl]
        obtain ⟨b0, hb0⟩ : ∃ b, d.isEmpty = b := ⟨_, rfl⟩
        obtain ⟨b1, hb1⟩ : ∃ b, d.contains 0 = b := ⟨_, rfl⟩
        rw [hb0, hb1]
        have HEM : Hid (decide ((1 : Int) ≤ (d.length : Int)) = !b0) := Lib.hid (by rw [← hb0]; cases d with | nil => rfl | cons x r => simp; omega)
        have HCN : Hid ((d.drop 0).contains 0 = b1) := Lib.hid hb1
        have HLE : Hid (decide (d.length ≤ 400) = decide ((d.length : Int) ≤ 400)) := Lib.hid (by rw [decide_eq_decide]; omega)
        rw [HLE.out]
        clear h1 h2 hb0 hb1
        go_enter Tryz.func80, Tryz.ntmps80
        go_upto_region 1 with (fail)
        rw [HW1.out]
        go_wp2_with (fail)
        go_loopw [3] (fun t3 W => ∃ i : Nat, i ≤ d.length ∧ t3 = .int .i64 i ∧ Hid ((d.drop i).contains 0 = b1) ∧ W = w1) (fun t3 _ => d.length - (intOf t3).toNat)
        case atStart => exact ⟨0, by omega, rfl, HCN, rfl⟩
        case round =>
          clear HCN
          obtain ⟨i, hi, rfl, HE, rfl⟩ := hrel
          have i0 : (0 : Int) ≤ i := by omega
          by_cases hlt : i < d.length
          · have i1 : (i : Int) < d.length := by omega
            have e1 : IntKind.i64.wrap ((i : Int) + 1) = (i : Int) + 1 := IntWalk.i64_in _ (by omega)
            have hat := contains_at hlt
            rw [HE.out] at hat
            have hg : (ByteArray.mk d.toArray)[i]'(by simpa [ByteArray.size] using hlt) = d[i] := rfl
            generalize d[i] = x at *
            by_cases hx : x = 0
            · have hB : ((x.toNat : Int) == 0) = true := by rw [hx]; rfl
              have HRF := Lib.hid (show b1 = true by rw [hat, hx]; rfl)
              clear hat hx
              go_wp2_with (fail)
              go_ret
              exact ⟨by rw [HRF.out]; simp, HB1.out⟩
            · have hB : ((x.toNat : Int) == 0) = false := by simp; exact fun h => hx (UInt8.toNat.inj (by simpa using h))
              have HRF := Lib.hid (show (d.drop (i + 1)).contains 0 = b1 by rw [hat, show (x == 0) = false by simpa using hx, Bool.false_or])
              clear hat hx
              go_wp2_with (fail)
              go_roundw
              case rel => exact ⟨i + 1, by omega, by go_num, HRF, by first | trivial | rfl⟩
              case measure => simp [intOf]; omega
          · obtain rfl : i = d.length := by omega
            have i1 : decide ((d.length : Int) < (d.length : Int)) = false := by rw [decide_eq_false_iff_not]; omega
            have HRF := Lib.hid (show b1 = false by rw [← HE.out]; simp)
            have hem := HEM.out
            cases b0 with
            | true =>
              simp only [Bool.not_true] at hem
              go_wp2_with (fail)
              go_ret
              exact ⟨by simp, HB1.out⟩
            | false =>
              simp only [Bool.not_false] at hem
              cases h4 : decide ((d.length : Int) ≤ 400) with
              | true =>
                go_wp2_with (fail)
                go_ret
                exact ⟨by rw [HRF.out, h4]; first | rfl | simp, HB1.out⟩
              | false =>
                go_wp2_with (fail)
                go_ret
                exact ⟨by rw [HRF.out, h4]; first | rfl | simp, HB1.out⟩
      · rw [if_neg h1, if_neg h2, if_neg h3]
        go_enter Tryz.func80, Tryz.ntmps80
        go_upto_region 1 with (fail)
        rw [HW1.out]
        go_wp2_with (fail)
        all_goals
          go_ret
          exact ⟨by first | (simp_all; done) | (simp; omega) | (simp_all; omega), HB1.out⟩

set_option maxHeartbeats 1000000 in
set_option maxRecDepth 100000 in
theorem rfind_any (t : List Nd) (A : Option Addr) (c : Nat) (s : List UInt8) (w : World) (hR : IsRows w 4 A (t.map ndV)) (hl : t.length ≤ 9223372036854775807) :
    Calls Tryz.prog 107 #[.slice A t.length c, .string ⟨s.toArray⟩] w fun e w' => ∃ r : Int, e = .returned (.int .i64 r) ∧ ((r = -1 ∧ findN t s = none) ∨ ∃ k : Nat, r = k ∧ k < t.length ∧ findN t s = some (t.getD k default)) ∧ w' = w := by
  have HR := Lib.hid hR
  clear hR
  go_enter Tryz.func107, Tryz.ntmps107
  go_wp2_with (fail)
  go_loopw [5] (fun t5 W => ∃ i : Nat, i ≤ t.length ∧ t5 = .int .i64 i ∧ Hid (∀ j, j < i → (t.getD j default).path ≠ s) ∧ W = w) (fun t5 _ => t.length - (intOf t5).toNat)
  case atStart => exact ⟨0, by omega, rfl, Lib.hid (fun j h => by omega), rfl⟩
  case round =>
    obtain ⟨i, hi, rfl, HN, rfl⟩ := hrel
    have i0 : (0 : Int) ≤ i := by omega
    by_cases hlt : i < t.length
    · have i1 : (i : Int) < t.length := by omega
      have e1 : IntKind.i64.wrap ((i : Int) + 1) = (i : Int) + 1 := IntWalk.i64_in _ (by omega)
      obtain ⟨ad, rfl, c0, c1, c2, c3⟩ := node_cells HR.out hlt
      have HF := Lib.hid (fun h => findN_first (s := s) hlt HN.out h)
      have HNX : Hid ((t.getD i default).path ≠ s → ∀ j, j < i + 1 → (t.getD j default).path ≠ s) := Lib.hid (fun h j hj => by
        by_cases e : j = i
        · rw [e]; exact h
        · exact HN.out j (by omega))
      clear c1 c2 c3
      obtain ⟨q, hq⟩ : ∃ q, (t.getD i default).path = q := ⟨_, rfl⟩
      rw [hq] at c0 HF HNX
      cases hqs : (q == s) with
      | true =>
        have HR2 := Lib.hid (HF.out (by simpa using hqs))
        clear hq
        go_wp2_with (fail)
        go_ret
        exact ⟨_, rfl, .inr ⟨i, rfl, hlt, HR2.out⟩, rfl⟩
      | false =>
        have HR2 := Lib.hid (HNX.out (by simpa using hqs))
        clear hq
        go_wp2_with (fail)
        go_roundw
        case rel => exact ⟨i + 1, by omega, by go_num, HR2, by first | trivial | rfl⟩
        case measure => simp [intOf]; omega
    · obtain rfl : i = t.length := by omega
      have i1 : decide ((t.length : Int) < (t.length : Int)) = false := by rw [decide_eq_false_iff_not]; omega
      go_wp2_with (fail)
      go_ret
      exact ⟨_, rfl, .inl ⟨rfl, findN_none.2 HN.out⟩, rfl⟩

set_option maxHeartbeats 1000000 in
set_option maxRecDepth 100000 in
theorem rdir_any (t : List Nd) (A : Option Addr) (c : Nat) (s : List UInt8) (w : World) (hR : IsRows w 4 A (t.map ndV)) (hl : t.length ≤ 9223372036854775807) :
    Calls Tryz.prog 81 #[.slice A t.length c, .string ⟨s.toArray⟩] w (Ret w (.bool (dirN t s))) := by
  have HF := Lib.hid (rfind_any t A c s w hR hl)
  have HR := Lib.hid hR
  clear hR
  cases s with
  | nil =>
    show Calls _ _ _ w (Ret w (.bool true))
    clear HF
    go_enter Tryz.func81, Tryz.ntmps81
    go_wp2_with (fail)
    go_ret
    exact ⟨rfl, Below.refl _ _⟩
  | cons x q =>
    have HD : Hid (dirN t (x :: q) = (match findN t (x :: q) with | some n => n.kind == 2 | none => false)) := Lib.hid rfl
    generalize dirN t (x :: q) = res at *
    go_enter Tryz.func81, Tryz.ntmps81
    go_wp2_with (fail)
    refine HF.out.mono ?_
    rintro e w1 ⟨r, rfl, h, rfl⟩
    rcases h with ⟨rfl, hn⟩ | ⟨k, rfl, hk, hn⟩
    · have HRF := Lib.hid (show res = false by rw [HD.out, hn])
      clear hn
      go_wp2_with (fail)
      go_ret
      exact ⟨by rw [HRF.out]; rfl, Below.refl _ _⟩
    · have HRF := Lib.hid (show res = ((t.getD k default).kind == 2) by rw [HD.out, hn])
      obtain ⟨ad, rfl, c0, c1, c2, c3⟩ := node_cells HR.out hk
      clear c0 c2 c3 hn HD HF
      have k0 : (0 : Int) ≤ k := by omega
      have k1 : (k : Int) < t.length := by omega
      generalize (t.getD k default) = nd at *
      go_wp2_with (fail)
      go_ret
      exact ⟨by rw [HRF.out]; first | rfl | simp, Below.refl _ _⟩
end Go.Proofs.YtjajoiahgfafgaaGreatDoor
end

/- The document's Check of a tree. -/
section
set_option linter.unusedVariables false
namespace Go.Proofs.YtjajoiahgfafgaaGreatDoor
open Go.RowKit Plain

set_option maxHeartbeats 4000000 in
set_option maxRecDepth 100000 in
theorem rcheck_any (t : List Nd) (A : Option Addr) (c : Nat) (w : World) (hR : IsRows w 4 A (t.map ndV)) (hc : t.length ≤ c) (hlen : t.length ≤ 9223372036854775807) (hp : ∀ n ∈ t, n.path.length ≤ 8796093022200 ∧ n.data.length ≤ 9223372036854775807) :
    Calls Tryz.prog 48 #[.slice A t.length c] w (Ret w (.int .i64 (okE (treeOK t)))) := by
  by_cases hbig : 1000 < t.length
  · have hb : decide ((1000 : Int) < (t.length : Int)) = true := by rw [decide_eq_true_eq]; omega
    have HE := Lib.hid (show treeOK t = false from treeOK_long hbig)
    rw [HE.out]
    clear hbig
    go_enter Tryz.func48, Tryz.ntmps48
    go_wp2_with (fail)
    go_ret
    exact ⟨rfl, Below.refl _ _⟩
  have hsm : t.length ≤ 1000 := by omega
  have hb : decide ((1000 : Int) < (t.length : Int)) = false := by rw [decide_eq_false_iff_not]; omega
  have HRES : Hid (restOK (fun i => nodeOK t t i) 0 t.length = treeOK t) := Lib.hid (treeOK_ref hsm).symm
  generalize treeOK t = res at *
  have HR := Lib.hid (fun W (h : Below w.heap.size w W) => hR.below h)
  have HDIR := Lib.hid (fun s W (h : Below w.heap.size w W) => rdir_any t A c s W (hR.below h) hlen)
  have HP := Lib.hid hp
  clear hR hp
  go_enter Tryz.func48, Tryz.ntmps48
  go_wp2_with (fail)
  go_loopw [3] (fun t3 W => ∃ (i : Nat), i ≤ t.length ∧ t3 = .int .i64 i ∧ Hid (restOK (fun i => nodeOK t t i) i t.length = res) ∧ Hid (Below w.heap.size w W)) (fun t3 _ => t.length - (intOf t3).toNat)
  case atStart => exact ⟨0, by omega, rfl, HRES, Lib.hid (Below.refl _ _)⟩
  case round =>
    clear HRES
    obtain ⟨i, hi, rfl, HE, HB⟩ := hrel
    have i0 : (0 : Int) ≤ i := by omega
    by_cases hlt : i < t.length
    · have i1 : (i : Int) < t.length := by omega
      have e1 : IntKind.i64.wrap ((i : Int) + 1) = (i : Int) + 1 := IntWalk.i64_in _ (by omega)
      obtain ⟨ad, rfl, c0, c1, c2, c3⟩ := node_cells (HR.out _ HB.out) hlt
      have hpl := HP.out _ (mem_getD hlt)
      have hat := restOK_at (f := fun i => nodeOK t t i) hlt
      rw [HE.out] at hat
      have HN : Hid (nodeOK t t i = (pathOK (t.getD i default).path && rightN (t.getD i default) && beforeN t i && dirN t (parentM (t.getD i default).path))) := Lib.hid rfl
      have HBN : Hid (∀ k, i = k + 1 → beforeN t i = decide (orderM (t.getD k default).path (t.getD i default).path < 0)) := Lib.hid (fun k e => by subst e; rfl)
      obtain ⟨nd, HND⟩ : ∃ nd : Nd, Hid (nd = t.getD i default) := ⟨_, Lib.hid rfl⟩
      have HNR := Lib.hid (fun W (h : Below w.heap.size w W) => (node_cells (HR.out _ h) hlt))
      rw [← HND.out] at HN hpl c0 c1 c2 c3 HBN HNR
      have HPL := Lib.hid hpl
      have HAT := Lib.hid hat
      have HRIGHT := Lib.hid (fun W => rright_any nd W HPL.out.2)
      have HPATH := Lib.hid (fun W => Path_ref nd.path W HPL.out.1)
      have HPAR := Lib.hid (fun W => Parent_ref nd.path W HPL.out.1)
      clear hat hpl
      cases hpa : pathOK nd.path with
      | false =>
        rw [hpa] at HPATH
        have HRF := Lib.hid (show res = false by rw [HAT.out, HN.out, hpa]; rfl)
        clear hpa
        go_wp2_with (fail)
        refine (HPATH.out _).mono ?_
        rintro e w1 ⟨rfl, hw1⟩
        go_wp2_with (fail)
        go_ret
        exact ⟨by rw [HRF.out]; rfl, HB.out.trans (hw1.mono HB.out.size)⟩
      | true =>
      rw [hpa] at HPATH
      rw [hpa, Bool.true_and] at HN
      clear hpa
      cases hri : rightN nd with
      | false =>
        rw [hri] at HRIGHT
        have HRF := Lib.hid (show res = false by rw [HAT.out, HN.out, hri]; rfl)
        clear hri
        go_wp2_with (fail)
        refine (HPATH.out _).mono ?_
        rintro e w1 ⟨rfl, hw1⟩
        have HB1 := Lib.hid (HB.out.trans (hw1.mono HB.out.size))
        clear hw1 c0 c1 c2 c3
        obtain ⟨ad', e', c0, c1, c2, c3⟩ := HNR.out _ HB1.out
        obtain rfl : ad = ad' := by injection e'
        clear e'
        go_wp2_with (fail)
        clear c0 c1 c2 c3
        refine (show Calls Tryz.prog 80 _ _ _ from HRIGHT.out _).mono ?_
        rintro e w2 ⟨rfl, hw2⟩
        go_wp2_with (fail)
        go_ret
        exact ⟨by rw [HRF.out]; rfl, HB1.out.trans (hw2.mono HB1.out.size)⟩
      | true =>
      rw [hri] at HRIGHT
      rw [hri, Bool.true_and] at HN
      clear hri
      have HRR := Lib.hid (fun W (h : Below w.heap.size w W) => HDIR.out (parentM nd.path) W h)
      generalize dirN t (parentM nd.path) = bd at *
      go_wp2_with (fail)
      refine (HPATH.out _).mono ?_
      rintro e w1 ⟨rfl, hw1⟩
      have HB1 := Lib.hid (HB.out.trans (hw1.mono HB.out.size))
      clear hw1 c0 c1 c2 c3
      obtain ⟨ad', e', c0, c1, c2, c3⟩ := HNR.out _ HB1.out
      obtain rfl : ad = ad' := by injection e'
      clear e'
      go_wp2_with (fail)
      clear c0 c1 c2 c3
      refine (show Calls Tryz.prog 80 _ _ _ from HRIGHT.out _).mono ?_
      rintro e w2 ⟨rfl, hw2⟩
      have HB2 := Lib.hid (HB1.out.trans (hw2.mono HB1.out.size))
      clear hw2
      obtain ⟨ad', e', c0, c1, c2, c3⟩ := HNR.out _ HB2.out
      obtain rfl : ad = ad' := by injection e'
      clear e'
      go_wp2_with (fail)
      clear c0 c1 c2 c3
      refine (HPAR.out _).mono ?_
      rintro e w3 ⟨rfl, hw3⟩
      have HB3 := Lib.hid (HB2.out.trans (hw3.mono HB2.out.size))
      clear hw3
      go_wp2_with (fail)
      refine (HRR.out _ HB3.out).mono ?_
      rintro e w4 ⟨rfl, hw4⟩
      have HB4 := Lib.hid (HB3.out.trans (hw4.mono HB3.out.size))
      clear hw4
      cases bd with
      | false =>
        have HRF := Lib.hid (show res = false by rw [HAT.out, HN.out]; simp)
        go_wp2_with (fail)
        go_ret
        exact ⟨by rw [HRF.out]; rfl, HB4.out⟩
      | true =>
      rw [Bool.and_true] at HN
      cases i with
      | zero =>
        have HRF := Lib.hid (show restOK (fun i => nodeOK t t i) (0 + 1) t.length = res by rw [HAT.out, HN.out]; simp [beforeN])
        go_wp2_with (fail)
        go_quiet (fail)
        go_wp2_with (fail)
        go_roundw
        case rel => exact ⟨0 + 1, by omega, by first | rfl | go_num, HRF, Lib.hid (below_drewN HB4.out _)⟩
        case measure => simp [intOf]; omega
      | succ k =>
        have hk : k < t.length := by omega
        obtain ⟨ad', e', d0, d1, d2, d3⟩ := node_cells (HR.out _ HB4.out) hk
        obtain rfl : ad = ad' := by injection e'
        obtain ⟨ad', e2', c0, c1, c2, c3⟩ := HNR.out _ HB4.out
        obtain rfl : ad = ad' := by injection e2'
        have hpl2 := HP.out _ (mem_getD hk)
        have HBF := Lib.hid (HBN.out k rfl)
        obtain ⟨md, HMD⟩ : ∃ nd : Nd, Hid (nd = t.getD k default) := ⟨_, Lib.hid rfl⟩
        rw [← HMD.out] at d0 d1 d2 d3 hpl2 HBF
        have HORD := Lib.hid (fun W => Order_ref md.path nd.path W hpl2.1 HPL.out.1)
        have k0 : (0 : Int) ≤ k := by omega
        have k1 : (k : Int) < t.length := by omega
        have HD0 := Lib.hid d0
        have HC0 := Lib.hid c0
        clear e' e2' d0 d1 d2 d3 c0 c1 c2 c3 hpl2
        cases hor : decide (orderM md.path nd.path < 0) with
        | false =>
          have hoi2 : decide ((0 : Int) ≤ orderM md.path nd.path) = true := by have := of_decide_eq_false hor; exact decide_eq_true (by omega)
          have HRF := Lib.hid (show res = false by rw [HAT.out, HN.out, HBF.out, hor]; rfl)
          clear hor
          generalize orderM md.path nd.path = o at *
          go_upto_region 8 with (fail)
          refine wp_region_below (by kernel_rfl) (by kernel_rfl) ?_
          repeat first
            | (go_big_quiet_want; refine quiet_load_cell 9 _ rfl _ rfl _ _ HC0.out Tryz.underlying9 rfl ?_; simp only [Act.put, List.setIfInBounds_toArray, List.set_cons_succ, List.set_cons_zero]; go_big_quiet_on)
            | (go_big_quiet_want; refine quiet_load_cell 9 _ rfl _ rfl _ _ HD0.out Tryz.underlying9 rfl ?_; simp only [Act.put, List.setIfInBounds_toArray, List.set_cons_succ, List.set_cons_zero]; go_big_quiet_on)
            | go_big_quiet_step ((intro hW; go_at_call 83; exact Ret.quiet hW (HORD.out _)))
          refine wpQuiet_nil ?_
          intro W2 hW2
          go_wp2_with (fail)
          go_ret
          exact ⟨by rw [HRF.out]; rfl, HB4.out.trans (hW2.mono HB4.out.size)⟩
        | true =>
          have hoi2 : decide ((0 : Int) ≤ orderM md.path nd.path) = false := by have := of_decide_eq_true hor; rw [decide_eq_false_iff_not]; omega
          have HRF := Lib.hid (show restOK (fun i => nodeOK t t i) (k + 1 + 1) t.length = res by rw [HAT.out, HN.out, HBF.out, hor]; rfl)
          clear hor
          generalize orderM md.path nd.path = o at *
          go_upto_region 8 with (fail)
          refine wp_region_below (by kernel_rfl) (by kernel_rfl) ?_
          repeat first
            | (go_big_quiet_want; refine quiet_load_cell 9 _ rfl _ rfl _ _ HC0.out Tryz.underlying9 rfl ?_; simp only [Act.put, List.setIfInBounds_toArray, List.set_cons_succ, List.set_cons_zero]; go_big_quiet_on)
            | (go_big_quiet_want; refine quiet_load_cell 9 _ rfl _ rfl _ _ HD0.out Tryz.underlying9 rfl ?_; simp only [Act.put, List.setIfInBounds_toArray, List.set_cons_succ, List.set_cons_zero]; go_big_quiet_on)
            | go_big_quiet_step ((intro hW; go_at_call 83; exact Ret.quiet hW (HORD.out _)))
          refine wpQuiet_nil ?_
          intro W2 hW2
          go_wp2_with (fail)
          go_roundw
          case rel => exact ⟨k + 1 + 1, by omega, by first | rfl | go_num, HRF, Lib.hid (HB4.out.trans (hW2.mono HB4.out.size))⟩
          case measure => simp [intOf]; omega
    · have i1 : ¬ (i : Int) < t.length := by omega
      obtain rfl : i = t.length := by omega
      have HE2 := Lib.hid (show res = true by rw [← HE.out, restOK_end])
      go_wp2_with (fail)
      go_ret
      exact ⟨by rw [HE2.out]; rfl, HB.out⟩
end Go.Proofs.YtjajoiahgfafgaaGreatDoor
end
