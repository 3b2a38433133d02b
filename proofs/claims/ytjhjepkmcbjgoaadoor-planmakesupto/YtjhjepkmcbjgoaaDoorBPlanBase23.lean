/- Texts joined: GlobR5, GlobR6. -/
import Derived.Test.YtjhjepkmcbjgoaaDoorBPlanBase22
import Derived.Test.YtjhjepkmcbjgoaaDoorBPlanBase16
import Derived.Test.YtjhjepkmcbjgoaaDoorBPlanBase18
set_option linter.unusedSimpArgs false
set_option linter.unusedVariables false

/- hawserref02.one. -/
section
set_option linter.unusedVariables false
namespace Go.Proofs.YtjhjepkmcbjgoaaDoor
open Go.RowKit Plain

theorem set_head {q I : List UInt8} {e : Nat} (he : 2 ≤ e) (h : ((91 :: q : List UInt8).take e).drop 1 = I) : I.head? = q.head? := by
  obtain ⟨e', rfl⟩ : ∃ e', e = e' + 1 + 1 := ⟨e - 2, by omega⟩
  rw [← h]
  cases q <;> simp

set_option maxHeartbeats 600000 in
set_option maxRecDepth 100000 in
theorem one_ref (c : UInt8) (q t : List UInt8) (w : World) (hv : Lib.validD (c :: q) = true) (hw : wfP (c :: q) = true) (hs : (c :: q).length ≤ 65536) :
    Calls Tryd.prog 52 #[.string ⟨(c :: q : List UInt8).toArray⟩, .int .i64 0, .string ⟨t.toArray⟩] w (Ret w (.tuple #[.bool (oneP (c :: q) t).1, .int .i64 ((oneP (c :: q) []).2 : Nat)])) := by
  have hql : q.length ≤ 65536 := by simp at hs; omega
  by_cases h63 : c = 63
  · subst h63
    rw [one_q, one_q]
    clear hv hw
    go_enter Tryd.func52, Tryd.ntmps52
    go_wp2_with (fail)
    go_ret2
    exact ⟨rfl, Below.refl _ _⟩
  by_cases h91 : c = 91
  · subst h91
    obtain ⟨e, he, hw2⟩ := wfP_set hw
    obtain ⟨a1, a2, a3, a4⟩ := inner_valid hv he
    have hev := close_even hv he
    have hcl : Calls Tryd.prog 50 #[.string ⟨(91 :: q : List UInt8).toArray⟩, .int .i64 0] w (Ret w (.int .i64 (e : Nat))) := by
      have h := closing_ref (91 :: q) 0 w (by simp) hs
      rw [List.drop_zero, he] at h
      have e0 : clI 0 (some e) = (e : Int) := by show ((0 + e : Nat) : Int) = _; omega
      rw [e0] at h
      exact h
    rw [one_set t he, one_set [] he]
    have hil : (((91 :: q : List UInt8).take e).drop 1).length = e - 1 := by simp at a2 ⊢; omega
    have hin : (((91 :: q : List UInt8).take e).drop 1) = q.take (e - 1) := by
      obtain ⟨e', rfl⟩ : ∃ e', e = e' + 1 := ⟨e - 1, by omega⟩
      simp
    obtain ⟨I, hI⟩ : ∃ I, ((91 :: q : List UInt8).take e).drop 1 = I := ⟨_, rfl⟩
    have hhd := set_head a1 hI
    have hevI : evenR false (runesP (if q.head? = some 33 then I.drop 1 else I)) = true := by
      have h1 : ((91 :: q : List UInt8).take e).drop (setFrom (91 :: q)) = if q.head? = some 33 then I.drop 1 else I := by
        by_cases h : q.head? = some 33
        · rw [setFrom_2 h, if_pos h, ← hI, List.drop_drop]
        · rw [setFrom_1 h, if_neg h, hI]
      rw [← h1]; exact hev
    rw [hI] at a3 hil hin ⊢
    replace hin := hin.symm
    rw [← hhd] at hevI
    have HCL := Lib.hid hcl
    have HIN := Lib.hid hin
    have he1 : (1 : Int) ≤ e := by omega
    have he2 : (e : Int) ≤ (q.length : Int) + 1 := by simp at a2; omega
    have hw1 : IntKind.i64.wrap ((e : Int) + 1) = (e : Int) + 1 := IntWalk.i64_in _ (by simp at a2; omega)
    have he0 : (0 : Int) ≤ e := by omega
    clear hcl he hw2 a4 hv hw h63 hev hI hhd
    cases I with
    | nil => simp at hil; omega
    | cons x J =>
      by_cases h33 : x = 33
      · subst h33
        rw [List.head?_cons, if_pos rfl] at hevI
        replace hevI : evenR false (runesP J) = true := hevI
        have hH := fun W => holds_ref J t W (bang_valid a3) hevI (by simp at hil a2; omega)
        have HH := Lib.hid hH
        have hjl : List.take (e - 1 - 1) J = J := List.take_of_length_le (by simp at hil; omega)
        rw [show holdsP (33 :: J) t = !holdL (litsP (runesP J)) t from rfl]
        generalize holdL (litsP (runesP J)) t = b at *
        clear hH hevI a3
        go_enter Tryd.func52, Tryd.ntmps52
        go_wp2_with (fail)
        refine HCL.out.mono ?_
        rintro ee w1 ⟨rfl, hw1'⟩
        go_wp2_with (fail)
        refine (HH.out _).mono ?_
        rintro ee w2 ⟨rfl, hw2'⟩
        go_wp2_with (fail)
        go_ret2
        exact ⟨by cases b <;> rfl, hw1'.trans (hw2'.mono hw1'.size)⟩
      · have hx : (x :: J).head? ≠ some 33 := fun h => h33 (by injection h)
        rw [if_neg hx] at hevI
        have hH := fun W => holds_ref (x :: J) t W a3 hevI (by simp at hil a2 ⊢; omega)
        have HH := Lib.hid hH
        rw [show ∀ r, holdsP (x :: J) r = holdL (litsP (runesP (x :: J))) r from fun r => by unfold holdsP; rw [if_neg hx]]
        have h33' := u8_ne (n := 33) (by omega) h33
        simp only
        generalize holdL (litsP (runesP (x :: J))) t = b at *
        clear hH hevI a3 h33 hx
        go_enter Tryd.func52, Tryd.ntmps52
        go_wp2_with (fail)
        refine HCL.out.mono ?_
        rintro ee w1 ⟨rfl, hw1'⟩
        go_wp2_with (fail)
        refine (HH.out _).mono ?_
        rintro ee w2 ⟨rfl, hw2'⟩
        go_wp2_with (fail)
        go_ret2
        exact ⟨by cases b <;> rfl, hw1'.trans (hw2'.mono hw1'.size)⟩
  by_cases h92 : c = 92
  · subst h92
    cases q with
    | nil => rw [wfP_back_nil] at hw; cases hw
    | cons d q =>
      rw [Lib.validD_cons _ _ (by decide)] at hv
      have hne : (d :: q) ≠ [] := by simp
      obtain ⟨hw1, _⟩ := valid_next hne hv
      have hr1 := (runeT_rune hne hw1).2.2
      have hR := Runes_ref (d :: q) w hv hql
      rw [runesP_step hne hw1] at hR
      rw [one_back, one_back]
      have hlen := runeW_le' hne
      rw [← hr1] at hlen ⊢
      generalize runeT (d :: q) = y at *
      generalize runesP ((d :: q).drop (runeW (d :: q))) = Y at *
      obtain ⟨Z, hZ⟩ : ∃ Z, y :: Y = Z := ⟨_, rfl⟩
      have hZ0 : 0 < Z.length := by rw [← hZ]; simp
      have hZe : Z[0] = y := by simp [← hZ]
      rw [hZ] at hR
      have HR := Lib.hid hR
      have hyl : y.length ≤ 65536 := by omega
      have hw1 : IntKind.i64.wrap (1 + (y.length : Int)) = 1 + (y.length : Int) := IntWalk.i64_in _ (by omega)
      have hz0 : (0 : Int) < (Z.length : Int) := by omega
      clear hR hv hw hr1 hne h63 h91 hZ
      go_enter Tryd.func52, Tryd.ntmps52
      go_wp2_with (fail)
      refine HR.out.mono ?_
      rintro ee w1 ⟨AX, cX, rfl, hcX, hmX, hrX, hw1', _⟩
      obtain ⟨ad, rfl, cZ⟩ := hrX.str_at hZ0
      rw [hZe] at cZ
      replace cZ : w1.cell? ad = some (.string ⟨y.toArray⟩) := cZ
      have HC := Lib.hid cZ
      clear cZ hrX hZe
      go_wp2_with (fail)
      refine wp_region_below (by kernel_rfl) (by kernel_rfl) ?_
      repeat first
        | (go_big_quiet_want; refine quiet_load_cell 9 _ rfl _ rfl _ _ HC.out Tryd.underlying9 rfl ?_; simp only [Act.put, List.setIfInBounds_toArray, List.set_cons_succ, List.set_cons_zero]; go_big_quiet_on)
        | go_big_quiet_step ((fail))
      refine wpQuiet_nil ?_
      intro W2 hW2
      go_wp2_with (fail)
      go_ret2
      exact ⟨by simp, hw1'.trans (hW2.mono hw1'.size)⟩
  · rw [one_plain t h63 h92 h91, one_plain [] h63 h92 h91]
    have hne : (c :: q) ≠ [] := by simp
    obtain ⟨hw1, _⟩ := valid_next hne hv
    have hr1 := (runeT_rune hne hw1).2.2
    have hR := Runes_ref (c :: q) w hv hs
    rw [runesP_step hne hw1] at hR
    have hlen := runeW_le' hne
    rw [← hr1] at hlen ⊢
    have h63' := u8_ne (n := 63) (by omega) h63
    have h92' := u8_ne (n := 92) (by omega) h92
    have h91' := u8_ne (n := 91) (by omega) h91
    generalize runeT (c :: q) = y at *
    generalize runesP ((c :: q).drop (runeW (c :: q))) = Y at *
    obtain ⟨Z, hZ⟩ : ∃ Z, y :: Y = Z := ⟨_, rfl⟩
    have hZ0 : 0 < Z.length := by rw [← hZ]; simp
    have hZe : Z[0] = y := by simp [← hZ]
    rw [hZ] at hR
    have HR := Lib.hid hR
    have hyl : y.length ≤ 65536 := by omega
    have hz0 : (0 : Int) < (Z.length : Int) := by omega
    clear hR hv hw hr1 hne h63 h91 h92 hZ hw1
    go_enter Tryd.func52, Tryd.ntmps52
    go_wp2_with (fail)
    refine HR.out.mono ?_
    rintro ee w1 ⟨AX, cX, rfl, hcX, hmX, hrX, hw1', _⟩
    obtain ⟨ad, rfl, cZ⟩ := hrX.str_at hZ0
    rw [hZe] at cZ
    replace cZ : w1.cell? ad = some (.string ⟨y.toArray⟩) := cZ
    have HC := Lib.hid cZ
    clear cZ hrX hZe
    go_wp2_with (fail)
    refine wp_region_below (by kernel_rfl) (by kernel_rfl) ?_
    repeat first
      | (go_big_quiet_want; refine quiet_load_cell 9 _ rfl _ rfl _ _ HC.out Tryd.underlying9 rfl ?_; simp only [Act.put, List.setIfInBounds_toArray, List.set_cons_succ, List.set_cons_zero]; go_big_quiet_on)
      | go_big_quiet_step ((fail))
    refine wpQuiet_nil ?_
    intro W2 hW2
    go_wp2_with (fail)
    go_ret2
    exact ⟨by simp, hw1'.trans (hW2.mono hw1'.size)⟩
end Go.Proofs.YtjhjepkmcbjgoaaDoor
end

/- hawserref02.part. -/
section
set_option linter.unusedVariables false
namespace Go.Proofs.YtjhjepkmcbjgoaaDoor
open Go.RowKit Plain

namespace Plain
theorem matchT_nil_nil {R : Type} : matchT ([] : List (Option (R → Bool))) [] = true := by simp [matchT]
theorem matchT_nil {R : Type} (n : List R) : matchT ([] : List (Option (R → Bool))) n = n.isEmpty := by cases n <;> simp [matchT]
theorem matchT_some_nil {R : Type} (f : R → Bool) (p : List (Option (R → Bool))) : matchT (some f :: p) [] = false := by simp [matchT]
theorem matchT_some {R : Type} (f : R → Bool) (p : List (Option (R → Bool))) (r : R) (n : List R) : matchT (some f :: p) (r :: n) = (f r && matchT p n) := by simp [matchT]
theorem matchT_star_at {R : Type} (p : List (Option (R → Bool))) (n : List R) {i : Nat} (h : i < n.length) : matchT (none :: p) (n.drop i) = (matchT p (n.drop i) || matchT (none :: p) (n.drop (i + 1))) := by
  rw [List.drop_eq_getElem_cons h, matchT_none, matchS_cons, matchT_none]
theorem matchT_star_end {R : Type} (p : List (Option (R → Bool))) (n : List R) : matchT (none :: p) (n.drop n.length) = matchT p (n.drop n.length) := by
  rw [List.drop_length, matchT_none, matchS_nil]
end Plain

theorem one_wide {c : UInt8} {q : List UInt8} (hv : Lib.validD (c :: q) = true) (hw : wfP (c :: q) = true) (hc : c ≠ 42) : (oneP (c :: q) []).2 ≤ (c :: q).length := by
  by_cases h63 : c = 63
  · subst h63; rw [one_q]; simp
  by_cases h91 : c = 91
  · subst h91
    obtain ⟨e, he, _⟩ := wfP_set hw
    obtain ⟨_, a2, _⟩ := inner_valid hv he
    rw [one_set [] he]
    exact a2
  by_cases h92 : c = 92
  · subst h92
    cases q with
    | nil => rw [wfP_back_nil] at hw; cases hw
    | cons d q =>
      rw [one_back]
      have := runeW_le' (l := d :: q) (by simp)
      simp at this ⊢; omega
  · rw [one_plain [] h63 h92 h91]
    exact runeW_le' (by simp)

theorem cut_at {w : World} {A : Option Addr} {N : List (List UInt8)} (h : Reads w 1 A N.length (strs N)) {i : Nat} (hi : i ≤ N.length) (B : Option Addr) (hB : i < N.length → B = A.map (·.add i)) : Reads w 1 B (N.drop i).length (strs (N.drop i)) := by
  have := h.cut hi B (by simpa using hB)
  rw [List.length_drop]
  simpa [strs] using this

set_option maxHeartbeats 1000000 in
set_option maxRecDepth 100000 in
theorem part_ref : ∀ (m : Nat) (p : List UInt8) (N : List (List UInt8)) (A : Option Addr) (c : Nat) (w : World), p.length ≤ m → Lib.validD p = true → wfP p = true → p.length ≤ 65536 → N.length ≤ 65536 → N.length ≤ c → Reads w 1 A N.length (strs N) →
    Calls Tryd.prog 33 #[.string ⟨p.toArray⟩, .slice A N.length c] w (Ret w (.bool (matchT (toksP p) N))) := by
  intro m
  induction m with
  | zero =>
    intro p N A c w hpm hv hw hpl hN hc hr
    obtain rfl : p = [] := List.eq_nil_of_length_eq_zero (by omega)
    rw [toksP_nil, matchT_nil]
    obtain ⟨b, hb⟩ : ∃ b, N.isEmpty = b := ⟨_, rfl⟩
    have hb' : ((N.length : Int) == 0) = b := by rw [← hb]; cases N <;> simp; omega
    rw [hb]
    clear hr hb
    go_enter Tryd.func33, Tryd.ntmps33
    go_wp2_with (fail)
    go_ret
    exact ⟨by simp, Below.refl _ _⟩
  | succ m ih =>
    intro p N A c w hpm hv hw hpl hN hc hr
    cases p with
    | nil =>
      rw [toksP_nil, matchT_nil]
      obtain ⟨b, hb⟩ : ∃ b, N.isEmpty = b := ⟨_, rfl⟩
      have hb' : ((N.length : Int) == 0) = b := by rw [← hb]; cases N <;> simp; omega
      rw [hb]
      clear hr hb ih
      go_enter Tryd.func33, Tryd.ntmps33
      go_wp2_with (fail)
      go_ret
      exact ⟨by simp, Below.refl _ _⟩
    | cons x q =>
      have hpm' : q.length ≤ m := by simp at hpm; omega
      have hql : q.length ≤ 65536 := by simp at hpl; omega
      by_cases h42 : x = 42
      · subst h42
        rw [Lib.validD_cons _ _ (by decide)] at hv
        rw [wfP_plain (by decide) (by decide)] at hw
        have hIH : ∀ i, i ≤ N.length → ∀ B, (i < N.length → B = A.map (·.add i)) → ∀ W, Below w.heap.size w W → Calls Tryd.prog 33 #[.string ⟨q.toArray⟩, .slice B (N.length - i) (c - i)] W (Ret W (.bool (matchT (toksP q) (N.drop i)))) := fun i hi B hB W hW => by
          have h := ih q (N.drop i) B (c - i) W hpm' hv hw hql (by simp; omega) (by simp; omega) (cut_at (hr.below hW) hi B hB)
          rw [List.length_drop] at h
          exact h
        have HIH := Lib.hid hIH
        rw [toksP_star]
        obtain ⟨res, hres⟩ : ∃ b, matchT (none :: toksP q) N = b := ⟨_, rfl⟩
        have HRES := Lib.hid hres
        rw [hres]
        clear ih hIH hres hv hw hr
        generalize toksP q = T at *
        go_enter Tryd.func33, Tryd.ntmps33
        go_wp2_with (fail)
        go_loopw [5] (fun t5 W => ∃ i : Nat, t5 = .int .i64 i ∧ i ≤ N.length + 1 ∧ Hid (i ≤ N.length → res = matchT (none :: T) (N.drop i)) ∧ Hid (N.length < i → res = false) ∧ Hid (Below w.heap.size w W)) (fun t5 _ => N.length + 1 - (intOf t5).toNat)
        case atStart => exact ⟨0, rfl, by omega, Lib.hid (fun _ => HRES.out.symm), Lib.hid (fun h => absurd h (by omega)), Lib.hid (Below.refl _ _)⟩
        case round =>
          obtain ⟨i, rfl, hi, HE, HF, HB⟩ := hrel
          have i0 : (0 : Int) ≤ i := by omega
          have e1 : IntKind.i64.wrap ((i : Int) + 1) = (i : Int) + 1 := IntWalk.i64_in _ (by omega)
          by_cases hiN : i ≤ N.length
          · have i1 : (i : Int) ≤ N.length := by omega
            have hC := fun B hB W (hW : Below wr.heap.size wr W) => HIH.out i hiN B hB W (HB.out.trans (hW.mono HB.out.size))
            have hE := HE.out hiN
            obtain ⟨b, hb⟩ : ∃ b, matchT T (N.drop i) = b := ⟨_, rfl⟩
            rw [hb] at hC
            have HC := Lib.hid hC
            clear hC
            cases b with
            | true =>
              have HR2 := Lib.hid (show res = true by
                rw [hE]
                rcases Nat.lt_or_ge i N.length with h | h
                · rw [matchT_star_at _ _ h, hb]; rfl
                · obtain rfl : i = N.length := by omega
                  rw [matchT_star_end, hb])
              clear hE hb
              go_wp2_with (fail)
              refine wp_region_below (by kernel_rfl) (by kernel_rfl) ?_
              repeat (go_big_quiet_step ((intro hW; go_at_call 33; exact Ret.quiet hW (HC.out _ (fun h => by rw [if_neg (by omega)]) _ hW))))
              refine wpQuiet_nil ?_
              intro W2 hW2
              go_wp2_with (fail)
              all_goals
                go_ret
                exact ⟨by rw [HR2.out]; rfl, HB.out.trans (hW2.mono HB.out.size)⟩
            | false =>
              have HE2 := Lib.hid (fun (h : i + 1 ≤ N.length) => show res = matchT (none :: T) (N.drop (i + 1)) by rw [hE, matchT_star_at _ _ (by omega), hb]; rfl)
              have HF2 := Lib.hid (fun (h : N.length < i + 1) => show res = false by
                obtain rfl : i = N.length := by omega
                rw [hE, matchT_star_end, hb])
              clear hE hb
              go_wp2_with (fail)
              refine wp_region_below (by kernel_rfl) (by kernel_rfl) ?_
              repeat (go_big_quiet_step ((intro hW; go_at_call 33; exact Ret.quiet hW (HC.out _ (fun h => by rw [if_neg (by omega)]) _ hW))))
              refine wpQuiet_nil ?_
              intro W2 hW2
              have HB2 := Lib.hid (HB.out.trans (hW2.mono HB.out.size))
              clear hW2
              go_wp2_with (fail)
              all_goals
                go_roundw
                case rel => exact ⟨i + 1, by go_num, by omega, HE2, HF2, HB2⟩
                case measure => simp [intOf]; omega
          · have HR2 := Lib.hid (HF.out (by omega))
            have d1 : decide ((i : Int) ≤ (N.length : Int)) = false := by rw [decide_eq_false_iff_not]; omega
            go_wp2_with (fail)
            go_ret
            exact ⟨by rw [HR2.out]; rfl, HB.out⟩
      · obtain ⟨n1, n2, n3⟩ := wf_next hv hw h42
        have htok := toksP_one h42 n1
        have h42' := u8_ne (n := 42) (by omega) h42
        cases N with
        | nil =>
          rw [htok, matchT_some_nil]
          clear ih htok n1 n2 n3 hv hw hr h42
          go_enter Tryd.func33, Tryd.ntmps33
          go_wp2_with (fail)
          go_ret
          exact ⟨by simp, Below.refl _ _⟩
        | cons r N =>
          obtain ⟨ad, rfl, cZ⟩ := hr.str_at (k := 0) (by simp)
          replace cZ : w.cell? ad = some (.string ⟨r.toArray⟩) := cZ
          have hone := fun W => one_ref x q r W hv hw hpl
          have hrl : ((x :: q).drop (oneP (x :: q) []).2).length ≤ m := by rw [List.length_drop]; omega
          have hIH : ∀ B, (0 < N.length → B = some (ad.add 1)) → ∀ W, Below w.heap.size w W → Calls Tryd.prog 33 #[.string ⟨((x :: q).drop (oneP (x :: q) []).2).toArray⟩, .slice B N.length (c - 1)] W (Ret W (.bool (matchT (toksP ((x :: q).drop (oneP (x :: q) []).2)) N))) := fun B hB W hW => by
            have h1 := cut_at (hr.below hW) (i := 1) (by simp) B (fun h => hB (by simp at h; omega))
            have h := ih ((x :: q).drop (oneP (x :: q) []).2) N B (c - 1) W hrl n2 n3 (by rw [List.length_drop]; omega) (by simp at hN; omega) (by simp at hc; omega) (by simpa using h1)
            exact h
          have hwid := one_wide hv hw h42
          rw [htok, matchT_some]
          have HIH := Lib.hid hIH
          have HONE := Lib.hid hone
          have HCZ := Lib.hid cZ
          have hcc : 1 ≤ c := by simp at hc; omega
          have hnl : (0 : Int) < (N.length : Int) + 1 := by omega
          generalize hrest : (x :: q).drop (oneP (x :: q) []).2 = rest at *
          generalize (oneP (x :: q) []).2 = k at *
          have hk : (k : Int) ≤ (q.length : Int) + 1 := by simp at hwid; omega
          have hk0 : (0 : Int) ≤ k := by omega
          have htk : List.take (q.length + 1 - k) (List.drop k (x :: q)) = rest := by rw [hrest]; exact List.take_of_length_le (by rw [← hrest]; simp)
          have hc2 : N.length + 1 ≤ c := by simpa using hc
          have HRE := Lib.hid hrest
          generalize matchT (toksP rest) N = mm at *
          cases ho : (oneP (x :: q) r).1 with
          | false =>
            rw [ho] at hone
            have HONE := Lib.hid hone
            clear ih htok n1 n2 n3 hv hw hr h42 hIH hone hrest hrl hwid ho
            go_enter Tryd.func33, Tryd.ntmps33
            go_wp2_with (fail)
            refine (HONE.out _).mono ?_
            rintro ee w1 ⟨rfl, hw1⟩
            go_wp2_with (fail)
            refine wp_region_below (by kernel_rfl) (by kernel_rfl) ?_
            repeat (go_big_quiet_step ((fail)))
            refine wpQuiet_nil ?_
            intro W2 hW2
            go_wp2_with (fail)
            go_ret
            exact ⟨by simp, hw1.trans (hW2.mono hw1.size)⟩
          | true =>
            rw [ho] at hone
            have HONE := Lib.hid hone
            clear ih htok n1 n2 n3 hv hw hr h42 hIH hone hwid ho hrl hrest
            go_enter Tryd.func33, Tryd.ntmps33
            go_wp2_with (fail)
            refine (HONE.out _).mono ?_
            rintro ee w1 ⟨rfl, hw1⟩
            have HI1 := Lib.hid (fun B hB W (hW : Below w1.heap.size w1 W) => HIH.out B hB W (hw1.trans (hW.mono hw1.size)))
            clear HIH
            go_wp2_with (fail)
            refine wp_region_below (by kernel_rfl) (by kernel_rfl) ?_
            repeat (go_big_quiet_step ((intro hW; go_at_call 33; exact Ret.quiet hW (HI1.out _ (fun h => by rw [if_neg (by omega)]; rfl) _ hW))))
            refine wpQuiet_nil ?_
            intro W2 hW2
            go_wp2_with (fail)
            all_goals
              go_ret
              exact ⟨by simp, hw1.trans (hW2.mono hw1.size)⟩
end Go.Proofs.YtjhjepkmcbjgoaaDoor
end
