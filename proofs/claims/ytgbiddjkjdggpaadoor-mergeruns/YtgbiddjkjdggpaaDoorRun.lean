/- merge.Run: lines, longer, a, b. -/
import Derived.Test.YtgbiddjkjdggpaaDoorMergeLines
namespace Go.Proofs.YtgbiddjkjdggpaaDoor
open Go.RowKit Plain

def finM (r : List UInt8 × Bool) : List UInt8 × Int := if r.2 = false then ([], 170) else if 65536 < r.1.length then ([], 32) else (r.1, 0)
def RunOut (w : World) (r : List UInt8 × Int) (e : Ending) (w' : World) : Prop := Ret w (.tuple #[.string ⟨r.1.toArray⟩, .int .i64 r.2]) e w'

theorem Run_a (o a b : List UInt8) (w : World) (hl : a.length ≤ 65536) :
    Calls Tryd.prog 8 #[.string ⟨#[97]⟩, .string ⟨o.toArray⟩, .string ⟨a.toArray⟩, .string ⟨b.toArray⟩] w (RunOut w (a, 0)) := by
  go_enter Tryd.func8, Tryd.ntmps8
  go_wp2_with (fail)
  go_ret2
  exact ⟨rfl, Below.refl _ _⟩
theorem Run_b (o a b : List UInt8) (w : World) (hl : b.length ≤ 65536) :
    Calls Tryd.prog 8 #[.string ⟨#[98]⟩, .string ⟨o.toArray⟩, .string ⟨a.toArray⟩, .string ⟨b.toArray⟩] w (RunOut w (b, 0)) := by
  go_enter Tryd.func8, Tryd.ntmps8
  go_wp2_with (fail)
  go_ret2
  exact ⟨rfl, Below.refl _ _⟩
theorem Run_longer (o a b : List UInt8) (w : World) (hl : (longerM a b).length ≤ 65536) :
    Calls Tryd.prog 8 #[.string ⟨#[108, 111, 110, 103, 101, 114]⟩, .string ⟨o.toArray⟩, .string ⟨a.toArray⟩, .string ⟨b.toArray⟩] w (RunOut w (longerM a b, 0)) := by
  have HG := Lib.hid (longer_any a b w)
  generalize longerM a b = l at *
  go_enter Tryd.func8, Tryd.ntmps8
  go_wp2_with (fail)
  refine HG.out.mono ?_
  rintro e w1 ⟨rfl, hw1⟩
  go_wp2_with (fail)
  go_ret2
  exact ⟨rfl, hw1⟩
theorem Run_lines (o a b : List UInt8) (m : Int) (w : World) (ho : o.length ≤ 65536) (ha : a.length ≤ 65536) (hb : b.length ≤ 65536) (hm : w.cell? ⟨0, 0, none⟩ = some (.int .i64 m)) :
    Calls Tryd.prog 8 #[.string ⟨#[108, 105, 110, 101, 115]⟩, .string ⟨o.toArray⟩, .string ⟨a.toArray⟩, .string ⟨b.toArray⟩] w (RunOut w (finM (linesM o a b))) := by
  have hg := lines_any o a b m w ho ha hb hm
  clear hm ho ha hb
  generalize linesM o a b = r at *
  obtain ⟨l, ok⟩ := r
  simp only at hg
  have HG := Lib.hid hg
  clear hg
  cases ok with
  | false =>
    have hf : finM (l, false) = ([], 170) := rfl
    rw [hf]
    clear hf
    go_enter Tryd.func8, Tryd.ntmps8
    go_wp2_with (fail)
    refine HG.out.mono ?_
    rintro e w1 ⟨rfl, hw1⟩
    go_wp2_with (fail)
    go_ret2
    exact ⟨rfl, hw1⟩
  | true =>
    by_cases h : 65536 < l.length
    · have hf : finM (l, true) = ([], 32) := by unfold finM; simp [h]
      rw [hf]
      clear hf
      go_enter Tryd.func8, Tryd.ntmps8
      go_wp2_with (fail)
      refine HG.out.mono ?_
      rintro e w1 ⟨rfl, hw1⟩
      go_wp2_with (fail)
      go_ret2
      exact ⟨rfl, hw1⟩
    · have hf : finM (l, true) = (l, 0) := by unfold finM; simp [h]
      rw [hf]
      clear hf
      go_enter Tryd.func8, Tryd.ntmps8
      go_wp2_with (fail)
      refine HG.out.mono ?_
      rintro e w1 ⟨rfl, hw1⟩
      go_wp2_with (fail)
      go_ret2
      exact ⟨rfl, hw1⟩

theorem awake_lines : finM (linesM [49, 10, 50, 10, 51, 10] [48, 10, 49, 10, 50, 10, 51, 10] [49, 10, 50, 10, 51, 10, 52, 10]) = ([48, 10, 49, 10, 50, 10, 51, 10, 52, 10], 0) := by decide +kernel
theorem known_union : Lib.containsS knowns ⟨#[117, 110, 105, 111, 110]⟩ = true := by decide +kernel
theorem known_x : Lib.containsS knowns ⟨#[120]⟩ = false := by decide +kernel

theorem awake_any (m : Int) (w : World) (hm : w.cell? ⟨0, 0, none⟩ = some (.int .i64 m)) :
    Calls Tryd.prog 7 #[] w (Ret w (.bool true)) := by
  have hg := Run_lines [49, 10, 50, 10, 51, 10] [48, 10, 49, 10, 50, 10, 51, 10] [49, 10, 50, 10, 51, 10, 52, 10] m w (by decide) (by decide) (by decide) hm
  rw [awake_lines] at hg
  have hk := fun W => Known_any [117, 110, 105, 111, 110] W
  rw [known_union] at hk
  have hx := fun W => Known_any [120] W
  rw [known_x] at hx
  have HG := Lib.hid hg
  have HK := Lib.hid hk
  have HX := Lib.hid hx
  clear hg hk hx hm
  go_enter Tryd.func7, Tryd.ntmps7
  go_wp2_with (fail)
  refine HG.out.mono ?_
  rintro e w1 ⟨rfl, hw1⟩
  go_wp2_with (fail)
  refine (HK.out _).mono ?_
  rintro e w2 ⟨rfl, hw2⟩
  go_wp2_with (fail)
  refine (HX.out _).mono ?_
  rintro e w3 ⟨rfl, hw3⟩
  go_wp2_with (fail)
  go_ret
  exact ⟨rfl, (hw1.trans (hw2.mono hw1.size)).trans (hw3.mono (hw1.trans (hw2.mono hw1.size)).size)⟩
end Go.Proofs.YtgbiddjkjdggpaaDoor
