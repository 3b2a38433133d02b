/- hawserlaw02.awake. -/
import Derived.Test.YtgppfcaghjbjmaaDoorGlob7
namespace Go.Proofs.YtgppfcaghjbjmaaDoor
open Go.RowKit Plain

section
variable {R : Type}
def starE (g : List R → Bool) : List R → Bool
  | [] => g []
  | r :: n => g (r :: n) || starE g n
/-- the same as matchT, in a form that reduces -/
def matchE : List (Option (R → Bool)) → List R → Bool
  | [] => fun n => n.isEmpty
  | none :: p => fun n => starE (matchE p) n
  | some f :: p => fun n => match n with
    | [] => false
    | r :: n => f r && matchE p n
theorem matchE_T : ∀ (p : List (Option (R → Bool))) (n : List R), matchT p n = matchE p n
  | [], n => by simp only [matchT]; rfl
  | some f :: p, [] => by simp only [matchT]; rfl
  | some f :: p, r :: n => by
    simp only [matchT]
    rw [matchE_T p n]; rfl
  | none :: p, n => by
    rw [matchT_none]
    show _ = starE (matchE p) n
    induction n with
    | nil => rw [matchS_nil, matchE_T p]; rfl
    | cons r n ih => rw [matchS_cons, matchE_T p, ih]; rfl
end
def partE (p n : List UInt8) : Bool := matchE (toksP p) (runesP n)
def partsE (l n : List (List UInt8)) : Bool := matchE (l.map fun p => if p = [42, 42] then none else some (partE p)) n
theorem partE_P : partP = partE := by funext p n; unfold partP partE; rw [matchE_T]
theorem partsE_P (l n : List (List UInt8)) : partsP l n = partsE l n := by
  unfold partsP partsE
  rw [matchE_T, show partsTok = fun p => if p = [42, 42] then none else some (partE p) from by funext p; unfold partsTok; rw [partE_P]]
theorem awg1 : matchG [97, 47, 42, 46, 103, 111] [97, 47, 98, 46, 103, 111] = true := by
  rw [matchG_slash (by decide +kernel) (by decide +kernel) (by decide) (by decide), partsE_P]; decide +kernel
theorem awg2 : matchG [97, 47, 42, 46, 103, 111] [97, 47, 99, 47, 98, 46, 103, 111] = false := by
  rw [matchG_slash (by decide +kernel) (by decide +kernel) (by decide) (by decide), partsE_P]; decide +kernel
theorem awg3 : matchG [42, 46, 103, 111] [97, 47, 99, 47, 98, 46, 103, 111] = true := by
  rw [matchG_base (by decide +kernel) (by decide +kernel) (by decide) (by decide), partE_P]; decide +kernel

theorem awake_any (m : Int) (w : World) (hL : Laid w m) : Calls Tryd.prog 8 #[] w (Ret w (.bool true)) := by
  have hM := fun p s W (h : Below w.heap.size w W) (hp : p.length ≤ 100) (hs : s.length ≤ 100) => Match_any p s m W (hL.below h) (by omega) (by omega)
  have h1 := fun W h => hM [97, 47, 42, 46, 103, 111] [97, 47, 98, 46, 103, 111] W h (by decide) (by decide)
  have h2 := fun W h => hM [97, 47, 42, 46, 103, 111] [97, 47, 99, 47, 98, 46, 103, 111] W h (by decide) (by decide)
  have h3 := fun W h => hM [42, 46, 103, 111] [97, 47, 99, 47, 98, 46, 103, 111] W h (by decide) (by decide)
  rw [awg1] at h1
  rw [awg2] at h2
  rw [awg3] at h3
  have H1 := Lib.hid h1
  have H2 := Lib.hid h2
  have H3 := Lib.hid h3
  clear h1 h2 h3 hM hL
  go_enter Tryd.func8, Tryd.ntmps8
  go_wp2_with (fail)
  refine (H1.out w (Below.refl _ _)).mono ?_
  rintro e w1 ⟨rfl, hB1⟩
  go_wp2_with (fail)
  refine (H2.out w1 hB1).mono ?_
  rintro e w2 ⟨rfl, hw2⟩
  have hB2 := hB1.trans (hw2.mono hB1.size)
  clear hw2 hB1
  go_wp2_with (fail)
  refine (H3.out w2 hB2).mono ?_
  rintro e w3 ⟨rfl, hw3⟩
  have hB3 := hB2.trans (hw3.mono hB2.size)
  clear hw3 hB2
  go_wp2_with (fail)
  go_ret
  exact ⟨rfl, hB3⟩
end Go.Proofs.YtgppfcaghjbjmaaDoor
