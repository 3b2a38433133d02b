/- hawserref02.part. -/
import Derived.Test.YtgppfcaghjbjmaaDoorGlobR5
set_option linter.unusedVariables false
namespace Go.Proofs.YtgppfcaghjbjmaaDoor
open Go.RowKit Plain

namespace Plain
theorem matchT_nil_nil {R : Type} : matchT ([] : List (Option (R → Bool))) [] = true := by simp [matchT]
theorem matchT_nil {R : Type} (n : List R) : matchT ([] : List (Option (R → Bool))) n = n.isEmpty := by cases n <;> simp [matchT]
theorem matchT_some_nil {R : Type} (f : R → Bool) (p : List (Option (R → Bool))) : matchT (some f :: p) [] = false := by simp [matchT]
theorem matchT_some {R : Type} (f : R → Bool) (p : List (Option (R → Bool))) (r : R) (n : List R) : matchT (some f :: p) (r :: n) = (f r && matchT p n) := by simp [matchT]
theorem matchT_star_at {R : Type} (p : List (Option (R → Bool))) (n : List R) {i : Nat} (h : i < n.length) : matchT (none :: p) (n.drop i) = (matchT p (n.drop i) || matchT (none :: p) (n.drop (i + 1))) := by
  rw [List.drop_eq_getElem_cons h, matchT_none, matchS_cons, matchT_none]
theorem matchT_star_end {R : Type} (p : List (Option (R → Bool))) (n : List R) : matchT (none :: p) (n.drop n.length) = matchT p (n.drop n.length) := by
  rw [List.drop_length, matchT_none, matchS_nil]
end Plain

theorem one_wide {c : UInt8} {q : List UInt8} (hv : Lib.validD (c :: q) = true) (hw : wfP (c :: q) = true) (hc : c ≠ 42) : (oneP (c :: q) []).2 ≤ (c :: q).length := by
  by_cases h63 : c = 63
  · subst h63; rw [one_q]; simp
  by_cases h91 : c = 91
  · subst h91
    obtain ⟨e, he, _⟩ := wfP_set hw
    obtain ⟨_, a2, _⟩ := inner_valid hv he
    rw [one_set [] he]
    exact a2
  by_cases h92 : c = 92
  · subst h92
    cases q with
    | nil => rw [wfP_back_nil] at hw; cases hw
    | cons d q =>
      rw [one_back]
      have := runeW_le' (l := d :: q) (by simp)
      simp at this ⊢; omega
  · rw [one_plain [] h63 h92 h91]
    exact runeW_le' (by simp)

theorem cut_at {w : World} {A : Option Addr} {N : List (List UInt8)} (h : Reads w 1 A N.length (strs N)) {i : Nat} (hi : i ≤ N.length) (B : Option Addr) (hB : i < N.length → B = A.map (·.add i)) : Reads w 1 B (N.drop i).length (strs (N.drop i)) := by
  have := h.cut hi B (by simpa using hB)
  rw [List.length_drop]
  simpa [strs] using this

set_option maxHeartbeats 1000000 in
set_option maxRecDepth 100000 in
theorem part_ref : ∀ (m : Nat) (p : List UInt8) (N : List (List UInt8)) (A : Option Addr) (c : Nat) (w : World), p.length ≤ m → Lib.validD p = true → wfP p = true → p.length ≤ 65536 → N.length ≤ 65536 → N.length ≤ c → Reads w 1 A N.length (strs N) →
    Calls Tryd.prog 27 #[.string ⟨p.toArray⟩, .slice A N.length c] w (Ret w (.bool (matchT (toksP p) N))) := by
  intro m
  induction m with
  | zero =>
    intro p N A c w hpm hv hw hpl hN hc hr
    obtain rfl : p = [] := List.eq_nil_of_length_eq_zero (by omega)
    rw [toksP_nil, matchT_nil]
    obtain ⟨b, hb⟩ : ∃ b, N.isEmpty = b := ⟨_, rfl⟩
    have hb' : ((N.length : Int) == 0) = b := by rw [← hb]; cases N <;> simp; omega
    rw [hb]
    clear hr hb
    go_enter Tryd.func27, Tryd.ntmps27
    go_wp2_with (fail)
    go_ret
    exact ⟨by simp, Below.refl _ _⟩
  | succ m ih =>
    intro p N A c w hpm hv hw hpl hN hc hr
    cases p with
    | nil =>
      rw [toksP_nil, matchT_nil]
      obtain ⟨b, hb⟩ : ∃ b, N.isEmpty = b := ⟨_, rfl⟩
      have hb' : ((N.length : Int) == 0) = b := by rw [← hb]; cases N <;> simp; omega
      rw [hb]
      clear hr hb ih
      go_enter Tryd.func27, Tryd.ntmps27
      go_wp2_with (fail)
      go_ret
      exact ⟨by simp, Below.refl _ _⟩
    | cons x q =>
      have hpm' : q.length ≤ m := by simp at hpm; omega
      have hql : q.length ≤ 65536 := by simp at hpl; omega
      by_cases h42 : x = 42
      · subst h42
        rw [Lib.validD_cons _ _ (by decide)] at hv
        rw [wfP_plain (by decide) (by decide)] at hw
        have hIH : ∀ i, i ≤ N.length → ∀ B, (i < N.length → B = A.map (·.add i)) → ∀ W, Below w.heap.size w W → Calls Tryd.prog 27 #[.string ⟨q.toArray⟩, .slice B (N.length - i) (c - i)] W (Ret W (.bool (matchT (toksP q) (N.drop i)))) := fun i hi B hB W hW => by
          have h := ih q (N.drop i) B (c - i) W hpm' hv hw hql (by simp; omega) (by simp; omega) (cut_at (hr.below hW) hi B hB)
          rw [List.length_drop] at h
          exact h
        have HIH := Lib.hid hIH
        rw [toksP_star]
        obtain ⟨res, hres⟩ : ∃ b, matchT (none :: toksP q) N = b := ⟨_, rfl⟩
        have HRES := Lib.hid hres
        rw [hres]
        clear ih hIH hres hv hw hr
        generalize toksP q = T at *
        go_enter Tryd.func27, Tryd.ntmps27
        go_wp2_with (fail)
        go_loopw [5] (fun t5 W => ∃ i : Nat, t5 = .int .i64 i ∧ i ≤ N.length + 1 ∧ Hid (i ≤ N.length → res = matchT (none :: T) (N.drop i)) ∧ Hid (N.length < i → res = false) ∧ Hid (Below w.heap.size w W)) (fun t5 _ => N.length + 1 - (intOf t5).toNat)
        case atStart => exact ⟨0, rfl, by omega, Lib.hid (fun _ => HRES.out.symm), Lib.hid (fun h => absurd h (by omega)), Lib.hid (Below.refl _ _)⟩
        case round =>
          obtain ⟨i, rfl, hi, HE, HF, HB⟩ := hrel
          have i0 : (0 : Int) ≤ i := by omega
          have e1 : IntKind.i64.wrap ((i : Int) + 1) = (i : Int) + 1 := IntWalk.i64_in _ (by omega)
          by_cases hiN : i ≤ N.length
          · have i1 : (i : Int) ≤ N.length := by omega
            have hC := fun B hB W (hW : Below wr.heap.size wr W) => HIH.out i hiN B hB W (HB.out.trans (hW.mono HB.out.size))
            have hE := HE.out hiN
            obtain ⟨b, hb⟩ : ∃ b, matchT T (N.drop i) = b := ⟨_, rfl⟩
            rw [hb] at hC
            have HC := Lib.hid hC
            clear hC
            cases b with
            | true =>
              have HR2 := Lib.hid (show res = true by
                rw [hE]
                rcases Nat.lt_or_ge i N.length with h | h
                · rw [matchT_star_at _ _ h, hb]; rfl
                · obtain rfl : i = N.length := by omega
                  rw [matchT_star_end, hb])
              clear hE hb
              go_wp2_with (fail)
              refine wp_region_below (by kernel_rfl) (by kernel_rfl) ?_
              repeat (go_big_quiet_step ((intro hW; go_at_call 27; exact Ret.quiet hW (HC.out _ (fun h => by rw [if_neg (by omega)]) _ hW))))
              refine wpQuiet_nil ?_
              intro W2 hW2
              go_wp2_with (fail)
              all_goals
                go_ret
                exact ⟨by rw [HR2.out]; rfl, HB.out.trans (hW2.mono HB.out.size)⟩
            | false =>
              have HE2 := Lib.hid (fun (h : i + 1 ≤ N.length) => show res = matchT (none :: T) (N.drop (i + 1)) by rw [hE, matchT_star_at _ _ (by omega), hb]; rfl)
              have HF2 := Lib.hid (fun (h : N.length < i + 1) => show res = false by
                obtain rfl : i = N.length := by omega
                rw [hE, matchT_star_end, hb])
              clear hE hb
              go_wp2_with (fail)
              refine wp_region_below (by kernel_rfl) (by kernel_rfl) ?_
              repeat (go_big_quiet_step ((intro hW; go_at_call 27; exact Ret.quiet hW (HC.out _ (fun h => by rw [if_neg (by omega)]) _ hW))))
              refine wpQuiet_nil ?_
              intro W2 hW2
              have HB2 := Lib.hid (HB.out.trans (hW2.mono HB.out.size))
              clear hW2
              go_wp2_with (fail)
              all_goals
                go_roundw
                case rel => exact ⟨i + 1, by go_num, by omega, HE2, HF2, HB2⟩
                case measure => simp [intOf]; omega
          · have HR2 := Lib.hid (HF.out (by omega))
            have d1 : decide ((i : Int) ≤ (N.length : Int)) = false := by rw [decide_eq_false_iff_not]; omega
            go_wp2_with (fail)
            go_ret
            exact ⟨by rw [HR2.out]; rfl, HB.out⟩
      · obtain ⟨n1, n2, n3⟩ := wf_next hv hw h42
        have htok := toksP_one h42 n1
        have h42' := u8_ne (n := 42) (by omega) h42
        cases N with
        | nil =>
          rw [htok, matchT_some_nil]
          clear ih htok n1 n2 n3 hv hw hr h42
          go_enter Tryd.func27, Tryd.ntmps27
          go_wp2_with (fail)
          go_ret
          exact ⟨by simp, Below.refl _ _⟩
        | cons r N =>
          obtain ⟨ad, rfl, cZ⟩ := hr.str_at (k := 0) (by simp)
          replace cZ : w.cell? ad = some (.string ⟨r.toArray⟩) := cZ
          have hone := fun W => one_ref x q r W hv hw hpl
          have hrl : ((x :: q).drop (oneP (x :: q) []).2).length ≤ m := by rw [List.length_drop]; omega
          have hIH : ∀ B, (0 < N.length → B = some (ad.add 1)) → ∀ W, Below w.heap.size w W → Calls Tryd.prog 27 #[.string ⟨((x :: q).drop (oneP (x :: q) []).2).toArray⟩, .slice B N.length (c - 1)] W (Ret W (.bool (matchT (toksP ((x :: q).drop (oneP (x :: q) []).2)) N))) := fun B hB W hW => by
            have h1 := cut_at (hr.below hW) (i := 1) (by simp) B (fun h => hB (by simp at h; omega))
            have h := ih ((x :: q).drop (oneP (x :: q) []).2) N B (c - 1) W hrl n2 n3 (by rw [List.length_drop]; omega) (by simp at hN; omega) (by simp at hc; omega) (by simpa using h1)
            exact h
          have hwid := one_wide hv hw h42
          rw [htok, matchT_some]
          have HIH := Lib.hid hIH
          have HONE := Lib.hid hone
          have HCZ := Lib.hid cZ
          have hcc : 1 ≤ c := by simp at hc; omega
          have hnl : (0 : Int) < (N.length : Int) + 1 := by omega
          generalize hrest : (x :: q).drop (oneP (x :: q) []).2 = rest at *
          generalize (oneP (x :: q) []).2 = k at *
          have hk : (k : Int) ≤ (q.length : Int) + 1 := by simp at hwid; omega
          have hk0 : (0 : Int) ≤ k := by omega
          have htk : List.take (q.length + 1 - k) (List.drop k (x :: q)) = rest := by rw [hrest]; exact List.take_of_length_le (by rw [← hrest]; simp)
          have hc2 : N.length + 1 ≤ c := by simpa using hc
          have HRE := Lib.hid hrest
          generalize matchT (toksP rest) N = mm at *
          cases ho : (oneP (x :: q) r).1 with
          | false =>
            rw [ho] at hone
            have HONE := Lib.hid hone
            clear ih htok n1 n2 n3 hv hw hr h42 hIH hone hrest hrl hwid ho
            go_enter Tryd.func27, Tryd.ntmps27
            go_wp2_with (fail)
            refine (HONE.out _).mono ?_
            rintro ee w1 ⟨rfl, hw1⟩
            go_wp2_with (fail)
            refine wp_region_below (by kernel_rfl) (by kernel_rfl) ?_
            repeat (go_big_quiet_step ((fail)))
            refine wpQuiet_nil ?_
            intro W2 hW2
            go_wp2_with (fail)
            go_ret
            exact ⟨by simp, hw1.trans (hW2.mono hw1.size)⟩
          | true =>
            rw [ho] at hone
            have HONE := Lib.hid hone
            clear ih htok n1 n2 n3 hv hw hr h42 hIH hone hwid ho hrl hrest
            go_enter Tryd.func27, Tryd.ntmps27
            go_wp2_with (fail)
            refine (HONE.out _).mono ?_
            rintro ee w1 ⟨rfl, hw1⟩
            have HI1 := Lib.hid (fun B hB W (hW : Below w1.heap.size w1 W) => HIH.out B hB W (hw1.trans (hW.mono hw1.size)))
            clear HIH
            go_wp2_with (fail)
            refine wp_region_below (by kernel_rfl) (by kernel_rfl) ?_
            repeat (go_big_quiet_step ((intro hW; go_at_call 27; exact Ret.quiet hW (HI1.out _ (fun h => by rw [if_neg (by omega)]; rfl) _ hW))))
            refine wpQuiet_nil ?_
            intro W2 hW2
            go_wp2_with (fail)
            all_goals
              go_ret
              exact ⟨by simp, hw1.trans (hW2.mono hw1.size)⟩
end Go.Proofs.YtgppfcaghjbjmaaDoor
