/- hawserlaw04.HashSame: texts are the same just if each is the first one. No condition. -/
import Derived.Test.YtjihemiofnhleaaHashLaw
import Derived.Test.YtjihemiofnhleaaOpen
namespace Go.Proofs.Ytjihemiofnhleaa
open Go.RowKit Plain

set_option maxHeartbeats 400000 in
theorem Same_any (A : Option Addr) (c : Nat) (l : List (List UInt8)) (w : World) (hl : Reads w 1 A l.length (strs l)) (h63 : l.length ≤ 9223372036854775807) :
    Calls Try.prog 12 #[.slice A l.length c] w (Ret w (.bool (decide (∀ j, j < l.length → l[j]? = l[0]?)))) := by
  go_enter Try.func12, Try.ntmps12
  go_wp2_with (fail)
  go_loop [4, 7] (fun _ t7 => ∃ k : Nat, k ≤ l.length ∧ t7 = .int .i64 k ∧ Hid (∀ j, j < k → l[j]? = l[0]?)) (fun _ t7 => l.length - (intOf t7).toNat)
  case atStart => exact ⟨0, by omega, rfl, Lib.hid (fun j hj => by omega)⟩
  case round =>
    obtain ⟨k, hk, rfl, HT⟩ := hrel
    by_cases hlt : k < l.length
    · obtain ⟨ad, rfl, ck⟩ := hl.str_at hlt
      obtain ⟨ad', e, c0⟩ := hl.str_at (k := 0) (by omega)
      injection e with e
      subst e
      rw [show ad.add 0 = ad by simp [Addr.add]] at c0
      have h1 : l[k]? = some l[k] := List.getElem?_eq_getElem hlt
      have h2 : l[0]? = some (l[0]'(by omega)) := List.getElem?_eq_getElem (by omega)
      generalize l[k] = s at *
      generalize l[0]'(by omega) = t at *
      have H1 := Lib.hid h1
      have H2 := Lib.hid h2
      have hi : (k : Int) < l.length := by omega
      have h0 : (0 : Int) < l.length := by omega
      clear h1 h2
      go_wp2_with (fail)
      · have hne : (!s == t) = true := by assumption
        go_ret
        refine ⟨?_, Below.refl _ _⟩
        rw [decide_eq_false (fun h => by
          have := h k hlt
          rw [H1.out, H2.out] at this
          injection this with this
          subst this; simp at hne)]
        rfl
      · have he : (!s == t) = false := by assumption
        go_round
        case rel => exact ⟨k + 1, by omega, by go_num, Lib.hid (fun j hj => by
          by_cases e : j = k
          · subst e; rw [H1.out, H2.out, show s = t by simpa using he]
          · exact HT.out j (by omega))⟩
        case measure => simp [intOf]; omega
    · obtain rfl : k = l.length := by omega
      go_wp2_with (fail)
      go_ret
      refine ⟨?_, Below.refl _ _⟩
      rw [decide_eq_true HT.out]
      rfl

theorem adj_same (l : List (List UInt8)) : (∀ j, j < l.length → l[j]? = l[0]?) ↔ (∀ j, j + 1 < l.length → l[j + 1]? = l[j]?) := by
  constructor
  · intro h j hj
    rw [h (j + 1) hj, h j (by omega)]
  · intro h j
    induction j with
    | zero => intro _; rfl
    | succ j ih => intro hj; rw [h j hj]; exact ih (by omega)

set_option maxHeartbeats 1000000 in
theorem HashSame_any (A : Option Addr) (c : Nat) (l : List (List UInt8)) (w : World) (hl : Reads w 1 A l.length (strs l)) (h63 : l.length ≤ 9223372036854775807) :
    Calls Try.prog 5 #[.slice A l.length c] w (Ret w (.bool true)) := by
  go_enter Try.func5, Try.ntmps5
  go_wp2_with (fail)
  refine (Ret.quiet (Below.refl _ _) (awake_any _)).mono ?_
  rintro e w1 ⟨rfl, hb1⟩
  go_wp2_with (fail)
  go_loopw [3, 4] (fun t3 t4 W => ∃ (i : Nat) (b : Bool), 1 ≤ i ∧ (i ≤ l.length ∨ i = 1) ∧ t4 = .int .i64 i ∧ t3 = .bool b ∧ Hid (b = true ↔ ∀ j, j + 1 < i → l[j + 1]? = l[j]?) ∧ Hid (Below w.heap.size w W)) (fun _ t4 _ => l.length + 1 - (intOf t4).toNat)
  case atStart => exact ⟨1, true, by omega, .inr rfl, rfl, rfl, Lib.hid ⟨fun _ j hj => by omega, fun _ => rfl⟩, Lib.hid hb1⟩
  case round =>
    clear hb1
    obtain ⟨i, b, hi1, hi2, rfl, rfl, HT, HB⟩ := hrel
    by_cases hlt : i < l.length
    · obtain ⟨ad, rfl, ck⟩ := (hl.below HB.out).str_at hlt
      obtain ⟨ad', e, c0⟩ := (hl.below HB.out).str_at (k := i - 1) (by omega)
      injection e with e
      subst e
      have h1 : l[i]? = some l[i] := List.getElem?_eq_getElem hlt
      have h2 : l[i - 1]? = some (l[i - 1]'(by omega)) := List.getElem?_eq_getElem (by omega)
      generalize l[i] = s at *
      generalize l[i - 1]'(by omega) = t at *
      have H1 := Lib.hid h1
      have H2 := Lib.hid h2
      have hi : (i : Int) < l.length := by omega
      have e1 : IntKind.i64.wrap ((i : Int) - 1) = (i : Int) - 1 := IntWalk.i64_in _ (by omega)
      have n1 : ((i : Int) - 1).toNat = i - 1 := by omega
      have p1 : 0 ≤ ((i : Int) - 1) := by omega
      have q1 : ((i : Int) - 1) < l.length := by omega
      clear h1 h2
      have hnext : (∀ j, j + 1 < i + 1 → l[j + 1]? = l[j]?) ↔ (∀ j, j + 1 < i → l[j + 1]? = l[j]?) ∧ s = t := by
        constructor
        · intro h
          refine ⟨fun j hj => h j (by omega), ?_⟩
          have := h (i - 1) (by omega)
          rw [show i - 1 + 1 = i by omega, H1.out, H2.out] at this
          injection this
        · intro ⟨h, e⟩ j hj
          by_cases hji : j + 1 = i
          · rw [hji, H1.out, show j = i - 1 by omega, H2.out, e]
          · exact h j (by omega)
      have HN := Lib.hid hnext
      clear hnext
      cases b with
      | false =>
        go_wp2_with (fail)
        go_quiet (fail)
        go_wp2_with (fail)
        go_roundw
        case rel => exact ⟨i + 1, false, by omega, .inl (by omega), by go_num, rfl, Lib.hid ⟨fun h => by simp at h, fun h => HT.out.2 (HN.out.1 h).1⟩, Lib.hid (below_drewN HB.out _)⟩
        case measure => simp [intOf]; omega
      | true =>
        go_wp2_with (fail)
        go_quiet (fail)
        go_wp2_with (fail)
        go_roundw
        case rel => exact ⟨i + 1, s == t, by omega, .inl (by omega), by go_num, rfl, Lib.hid ⟨fun h => HN.out.2 ⟨HT.out.1 (by first | rfl | trivial), by simpa using h⟩, fun h => by simpa using (HN.out.1 h).2⟩, Lib.hid (below_drewN HB.out _)⟩
        case measure => simp [intOf]; omega
    · have hS := Same_any A c l wr (hl.below HB.out) h63
      have hb : decide (∀ j, j < l.length → l[j]? = l[0]?) = b := by
        rw [Bool.eq_iff_iff, decide_eq_true_iff, adj_same, HT.out]
        constructor
        · intro h j hj
          rcases hi2 with h2 | h2
          · exact h j (by omega)
          · omega
        · intro h j hj; exact h j (by omega)
      rw [hb] at hS
      go_wp2_with (fail)
      refine (Ret.quiet HB.out hS).mono ?_
      rintro e w3 ⟨rfl, hb3⟩
      go_wp2_with (fail)
      go_ret
      exact ⟨by simp, hb3⟩

open Go.ChangeShapes Go.WideShapes Go.ChangeAt in
/-- What the walk gives, for every argument. -/
theorem HashSame_contract (H : Type) (enc : TypeId × Value → H) (W : World) (base : Nat) (args : Array Value) (ds gs : List (DataW H)) (before : List MemPlace)
    (hval : ∀ (j : Nat) t v, Try.f5.params[j]? = some t → args[j]? = some v → Value.okWide Try.prog W .any base t v)
    (hW : DataW.Whole enc Try.prog Try.f5.params.toList Rows.hashSameSpec.vars false W args.toList ds gs before) :
    Calls Try.prog 5 args W fun e W' => ∃ v, e = .returned v ∧ Rows.hashSameSpec.post enc Try.prog Try.f5 false true false false W args v W' := by
  have hW' := hW
  obtain ⟨p, q, hA0, hV, rfl, hfz, hnd⟩ := hW
  have hA : DataW.TrodAll enc Try.prog W 0 (fun _ => true) true Try.f5.params.toList args.toList ds p := hA0
  rw [Try.params5] at hA hval
  obtain ⟨v0, vs0, d0, ds0, p0, q0, hargs, rfl, rfl, h0, r0⟩ := trodAll_cons hA
  obtain ⟨rfl, rfl, rfl⟩ := trodAll_nil r0
  obtain rfl : args = #[v0] := by cases args; simp_all
  obtain ⟨rfl, rfl⟩ := trodVars_none hV
  obtain ⟨A0, c0, x0, rfl, hc0, hm0, k0, ks0, kd0⟩ := open_texts Try.underlying30 Try.underlying9 (by kernel_rfl) (hval 0 30 v0 rfl rfl) h0
  clear hA0
  refine (HashSame_any A0 c0 x0 W k0 (by unfold maxLen at hm0; omega)).mono ?_
  exact fun e W' ⟨he, hb⟩ => ⟨_, he, law_post rfl hW' rfl (by kernel_rfl) Try.underlying4 (by kernel_rfl) laidOut hb⟩

open Go.ChangeShapes Go.WideShapes Go.ChangeAt in
set_option maxRecDepth 100000 in
theorem HashSame_lifted (os : Os) (started : os.Started) (H : Type) (enc : TypeId × Value → H) :
    ReturnsInHanded {} Try.checked os 5 .any (Rows.hashSameSpec.pre6 enc Try.prog Try.f5 Rows.hashSameRow.domain false) (Rows.hashSameSpec.post enc Try.prog Try.f5 false true false false) := by
  refine returnsInHanded_of_change (C := Try.checked) own started (by kernel_rfl) Try.func5
    (ChangeSpec.witness6 (enc := enc) (C := Try.checked) false ⟨#[], #[.slice none 0 0], []⟩ 8 (by kernel_rfl) (by kernel_rfl) (by kernel_rfl) (by kernel_rfl)) ?_
  intro W base args ds gs before hval hW _ _
  exact HashSame_contract H enc W base args ds gs before hval hW

theorem HashSame_holds : Rows.HashSameSaid :=
  OpenClaim.holds_of_wide 5 Try.f5 rfl rfl rfl rfl rfl rfl rfl ⟨rfl, rfl, rfl, rfl, rfl⟩ rfl rfl rfl rfl rfl (by kernel_rfl) Try.func5 (by kernel_rfl)
    (of_decide_eq_true (by kernel_rfl)) (by unfold Func.isWrapper; first | (rw [if_pos (by decide +kernel)]; kernel_rfl) | (rw [if_neg (by decide +kernel)]; exact ⟨rfl, rfl⟩))
    (fun os started H enc _ => HashSame_lifted os started H enc)
end Go.Proofs.Ytjihemiofnhleaa
