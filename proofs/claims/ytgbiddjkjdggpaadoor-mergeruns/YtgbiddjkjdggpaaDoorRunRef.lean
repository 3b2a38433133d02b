/- merge.Run at any program; hawserref17.Run, hawserref17.Known. -/
import Derived.Test.YtgbiddjkjdggpaaDoorMergeUnion
import Derived.Test.YtgbiddjkjdggpaaDoorRefLines
import Derived.Test.YtgbiddjkjdggpaaDoorTextsSame
namespace Go.Proofs.YtgbiddjkjdggpaaDoor
open Go.RowKit Plain

theorem Run_other (p o a b : List UInt8) (w : World) (h0 : p ≠ [97]) (h1 : p ≠ [98]) (h2 : p ≠ [117, 110, 105, 111, 110]) (h3 : p ≠ [108, 105, 110, 101, 115]) (h4 : p ≠ [108, 111, 110, 103, 101, 114]) :
    Calls Tryd.prog 8 #[.string ⟨p.toArray⟩, .string ⟨o.toArray⟩, .string ⟨a.toArray⟩, .string ⟨b.toArray⟩] w (RunOut w ([], 170)) := by
  have n0 : (p == [97]) = false := by simpa using h0
  have n1 : (p == [98]) = false := by simpa using h1
  have n2 : (p == [117, 110, 105, 111, 110]) = false := by simpa using h2
  have n3 : (p == [108, 105, 110, 101, 115]) = false := by simpa using h3
  have n4 : (p == [108, 111, 110, 103, 101, 114]) = false := by simpa using h4
  clear h0 h1 h2 h3 h4
  go_enter Tryd.func8, Tryd.ntmps8
  go_wp2_with (fail)
  go_ret2
  exact ⟨rfl, Below.refl _ _⟩
theorem RRun_other (p o a b : List UInt8) (w : World) (h0 : p ≠ [97]) (h1 : p ≠ [98]) (h2 : p ≠ [117, 110, 105, 111, 110]) (h3 : p ≠ [108, 105, 110, 101, 115]) (h4 : p ≠ [108, 111, 110, 103, 101, 114]) :
    Calls Tryd.prog 9 #[.string ⟨p.toArray⟩, .string ⟨o.toArray⟩, .string ⟨a.toArray⟩, .string ⟨b.toArray⟩] w (RunOut w ([], 170)) := by
  have n0 : (p == [97]) = false := by simpa using h0
  have n1 : (p == [98]) = false := by simpa using h1
  have n2 : (p == [117, 110, 105, 111, 110]) = false := by simpa using h2
  have n3 : (p == [108, 105, 110, 101, 115]) = false := by simpa using h3
  have n4 : (p == [108, 111, 110, 103, 101, 114]) = false := by simpa using h4
  clear h0 h1 h2 h3 h4
  go_enter Tryd.func9, Tryd.ntmps9
  go_wp2_with (fail)
  go_ret2
  exact ⟨rfl, Below.refl _ _⟩
theorem RRun_a (o a b : List UInt8) (w : World) (hl : a.length ≤ 65536) :
    Calls Tryd.prog 9 #[.string ⟨#[97]⟩, .string ⟨o.toArray⟩, .string ⟨a.toArray⟩, .string ⟨b.toArray⟩] w (RunOut w (a, 0)) := by
  go_enter Tryd.func9, Tryd.ntmps9
  go_wp2_with (fail)
  go_ret2
  exact ⟨rfl, Below.refl _ _⟩
theorem RRun_b (o a b : List UInt8) (w : World) (hl : b.length ≤ 65536) :
    Calls Tryd.prog 9 #[.string ⟨#[98]⟩, .string ⟨o.toArray⟩, .string ⟨a.toArray⟩, .string ⟨b.toArray⟩] w (RunOut w (b, 0)) := by
  go_enter Tryd.func9, Tryd.ntmps9
  go_wp2_with (fail)
  go_ret2
  exact ⟨rfl, Below.refl _ _⟩
theorem RRun_longer (o a b : List UInt8) (w : World) (ha : a.length ≤ 65536) (hb : b.length ≤ 65536) :
    Calls Tryd.prog 9 #[.string ⟨#[108, 111, 110, 103, 101, 114]⟩, .string ⟨o.toArray⟩, .string ⟨a.toArray⟩, .string ⟨b.toArray⟩] w (RunOut w (longerM a b, 0)) := by
  by_cases h1 : a.length < b.length
  · have hl : longerM a b = b := by unfold longerM; rw [if_pos (.inl h1)]
    have d1 : decide ((a.length : Int) < b.length) = true := by simp; omega
    rw [hl]
    clear hl
    go_enter Tryd.func9, Tryd.ntmps9
    go_wp2_with (fail)
    go_ret2
    exact ⟨rfl, Below.refl _ _⟩
  · by_cases h2 : (b.length : Int) = a.length
    · cases h3 : Op.bytesLess b a with
      | true =>
        have hl : longerM a b = b := by unfold longerM; rw [if_pos (.inr ⟨by omega, h3⟩)]
        rw [hl]
        clear hl
        go_enter Tryd.func9, Tryd.ntmps9
        go_wp2_with (fail)
        go_ret2
        exact ⟨rfl, Below.refl _ _⟩
      | false =>
        have hl : longerM a b = a := by unfold longerM; rw [if_neg (by simp [h1, h3])]
        rw [hl]
        clear hl
        go_enter Tryd.func9, Tryd.ntmps9
        go_wp2_with (fail)
        go_ret2
        exact ⟨rfl, Below.refl _ _⟩
    · have hl : longerM a b = a := by unfold longerM; rw [if_neg (by simp only [not_or, not_and]; exact ⟨h1, fun e => absurd e (by omega)⟩)]
      rw [hl]
      clear hl
      go_enter Tryd.func9, Tryd.ntmps9
      go_wp2_with (fail)
      go_ret2
      exact ⟨rfl, Below.refl _ _⟩
theorem RRun_union (o a b : List UInt8) (w : World) (ho : o.length ≤ 65536) (ha : a.length ≤ 65536) (hb : b.length ≤ 65536) :
    Calls Tryd.prog 9 #[.string ⟨#[117, 110, 105, 111, 110]⟩, .string ⟨o.toArray⟩, .string ⟨a.toArray⟩, .string ⟨b.toArray⟩] w (RunOut w (finM (unionM a b, true))) := by
  have hg := union_ref a b w ha hb
  clear ha hb
  generalize unionM a b = l at *
  have HG := Lib.hid hg
  clear hg
  by_cases h : 65536 < l.length
  · have hf : finM (l, true) = ([], 32) := by unfold finM; simp [h]
    rw [hf]
    clear hf
    go_enter Tryd.func9, Tryd.ntmps9
    go_wp2_with (fail)
    refine HG.out.mono ?_
    rintro e w1 ⟨rfl, hw1⟩
    go_wp2_with (fail)
    go_ret2
    exact ⟨rfl, hw1⟩
  · have hf : finM (l, true) = (l, 0) := by unfold finM; simp [h]
    rw [hf]
    clear hf
    go_enter Tryd.func9, Tryd.ntmps9
    go_wp2_with (fail)
    refine HG.out.mono ?_
    rintro e w1 ⟨rfl, hw1⟩
    go_wp2_with (fail)
    go_ret2
    exact ⟨rfl, hw1⟩
theorem RRun_lines (o a b : List UInt8) (w : World) (ho : o.length ≤ 65536) (ha : a.length ≤ 65536) (hb : b.length ≤ 65536) :
    Calls Tryd.prog 9 #[.string ⟨#[108, 105, 110, 101, 115]⟩, .string ⟨o.toArray⟩, .string ⟨a.toArray⟩, .string ⟨b.toArray⟩] w (RunOut w (finM (linesM o a b))) := by
  have hg := lines_ref o a b w ho ha hb
  clear ho ha hb
  generalize linesM o a b = r at *
  obtain ⟨l, ok⟩ := r
  simp only at hg
  have HG := Lib.hid hg
  clear hg
  cases ok with
  | false =>
    have hf : finM (l, false) = ([], 170) := rfl
    rw [hf]
    clear hf
    go_enter Tryd.func9, Tryd.ntmps9
    go_wp2_with (fail)
    refine HG.out.mono ?_
    rintro e w1 ⟨rfl, hw1⟩
    go_wp2_with (fail)
    go_ret2
    exact ⟨rfl, hw1⟩
  | true =>
    by_cases h : 65536 < l.length
    · have hf : finM (l, true) = ([], 32) := by unfold finM; simp [h]
      rw [hf]
      clear hf
      go_enter Tryd.func9, Tryd.ntmps9
      go_wp2_with (fail)
      refine HG.out.mono ?_
      rintro e w1 ⟨rfl, hw1⟩
      go_wp2_with (fail)
      go_ret2
      exact ⟨rfl, hw1⟩
    · have hf : finM (l, true) = (l, 0) := by unfold finM; simp [h]
      rw [hf]
      clear hf
      go_enter Tryd.func9, Tryd.ntmps9
      go_wp2_with (fail)
      refine HG.out.mono ?_
      rintro e w1 ⟨rfl, hw1⟩
      go_wp2_with (fail)
      go_ret2
      exact ⟨rfl, hw1⟩
def knownM (p : List UInt8) : Bool := p == [97] || p == [98] || p == [117, 110, 105, 111, 110] || p == [108, 105, 110, 101, 115] || p == [108, 111, 110, 103, 101, 114]
theorem RKnown_any (p : List UInt8) (w : World) :
    Calls Tryd.prog 11 #[.string ⟨p.toArray⟩] w (Ret w (.bool (knownM p))) := by
  unfold knownM
  obtain ⟨b0, h0⟩ : ∃ b, (p == [97]) = b := ⟨_, rfl⟩
  obtain ⟨b1, h1⟩ : ∃ b, (p == [98]) = b := ⟨_, rfl⟩
  obtain ⟨b2, h2⟩ : ∃ b, (p == [117, 110, 105, 111, 110]) = b := ⟨_, rfl⟩
  obtain ⟨b3, h3⟩ : ∃ b, (p == [108, 105, 110, 101, 115]) = b := ⟨_, rfl⟩
  obtain ⟨b4, h4⟩ : ∃ b, (p == [108, 111, 110, 103, 101, 114]) = b := ⟨_, rfl⟩
  rw [h0, h1, h2, h3, h4]
  cases b0 <;> cases b1 <;> cases b2 <;> cases b3 <;> cases b4
  all_goals
    go_enter Tryd.func11, Tryd.ntmps11
    go_wp2_with (fail)
    go_ret
    exact ⟨rfl, Below.refl _ _⟩
theorem knowns_M (p : List UInt8) : Lib.containsS knowns ⟨p.toArray⟩ = knownM p := by
  have e : ∀ l : List UInt8, ((⟨p.toArray⟩ : ByteArray) = ⟨l.toArray⟩) ↔ p = l := fun l =>
    ⟨fun h => by injection h with h; exact List.toArray_inj h, fun h => by rw [h]⟩
  rw [Bool.eq_iff_iff, Lib.containsS_iff]
  unfold knowns knownM
  simp only [List.mem_cons, List.not_mem_nil, or_false, Bool.or_eq_true, beq_iff_eq]
  rw [show (⟨p.toArray⟩ : ByteArray) = ⟨#[97]⟩ ↔ p = [97] from e [97], show (⟨p.toArray⟩ : ByteArray) = ⟨#[98]⟩ ↔ p = [98] from e [98], show (⟨p.toArray⟩ : ByteArray) = ⟨#[117, 110, 105, 111, 110]⟩ ↔ _ from e [117, 110, 105, 111, 110], show (⟨p.toArray⟩ : ByteArray) = ⟨#[108, 105, 110, 101, 115]⟩ ↔ _ from e [108, 105, 110, 101, 115], show (⟨p.toArray⟩ : ByteArray) = ⟨#[108, 111, 110, 103, 101, 114]⟩ ↔ _ from e [108, 111, 110, 103, 101, 114]]
  simp only [or_assoc]
end Go.Proofs.YtgbiddjkjdggpaaDoor
