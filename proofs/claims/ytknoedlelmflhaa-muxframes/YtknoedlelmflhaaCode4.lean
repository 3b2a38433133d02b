/- A reader's calls: a number, a text, a flag, how many follow, what is left. -/
import Derived.Test.YtknoedlelmflhaaCode3
import Derived.Shelf.Abstract
namespace Go.Proofs.Ytknoedlelmflhaa
open Go.RowKit Plain

theorem enter_num : ∀ args w, (callFunc 52 args).run Try.prog w = .ok (.enter 52 args) w := enters_of Try.func52 (by kernel_rfl) rfl

set_option maxRecDepth 100000 in
set_option maxHeartbeats 400000 in
theorem num1 (n : Nat) (rest : List UInt8) (w : World) : Calls Try.prog 52 #[.int .i64 n, .string ⟨rest.toArray⟩] w (Ret w (.tuple #[.string ⟨(passNum n rest).1.toArray⟩, .int .i64 ((passNum n rest).2 : Nat)])) := by
  go_enter Try.func52, Try.ntmps52
  go_wp2_with (fail)
  go_ret2
  exact ⟨rfl, Below.refl _ _⟩

set_option maxRecDepth 100000 in
set_option maxHeartbeats 400000 in
theorem RNum_any (br bb : Nat) (s : List UInt8) (f : Nat) (w : World) (h : Rd br bb (s, f) w) :
    Calls Try.prog 39 #[.pointer (some ⟨br, 0, none⟩)] w (RdRet w br bb (takeR passNum (s, f)).2 (.int .i64 ((takeR passNum (s, f)).1 : Nat))) := by
  have hT := take_pure 52 #[] passNum br bb s f w w h (gb_refl _ _) enter_num (fun _ _ => Nat.le_refl _) (fun n rest W _ _ _ => num1 n rest W)
  rcases htr : takeR passNum (s, f) with ⟨n, st⟩
  rw [htr] at hT
  clear htr
  go_enter Try.func39, Try.ntmps39
  go_wp2_with (fail)
  refine hT.mono ?_
  rintro e w1 ⟨rfl, h1, hg1⟩
  go_wp2_with (fail)
  go_ret
  exact ⟨rfl, h1, hg1⟩

theorem passCount_len (most least : Int) (n : Nat) (rest : List UInt8) : (passCount most least n rest).1.length ≤ rest.length := by
  unfold passCount; split
  · simp
  · split <;> simp

theorem enter_text : ∀ args w, (callFunc 53 args).run Try.prog w = .ok (.enter 53 args) w := enters_of Try.func53 (by kernel_rfl) rfl

/-- the text at hand -/
def textR (most : Int) (st : St) : List UInt8 :=
  if st.2 ≠ 0 then [] else if (numR st.1).2.2 ≠ 0 then [] else if (passText most (numR st.1).1 (numR st.1).2.1).2 ≠ 0 then [] else (numR st.1).2.1.take (numR st.1).1

set_option maxRecDepth 100000 in
set_option maxHeartbeats 400000 in
theorem text1_bad (most : Int) (n : Nat) (rest : List UInt8) (w : World) (a b : Nat) (ha : w.cell? ⟨a, 0, none⟩ = some (.int .i64 most)) (h : (passText most n rest).2 ≠ 0) :
    Calls Try.prog 53 #[.int .i64 n, .string ⟨rest.toArray⟩, .pointer (some ⟨a, 0, none⟩), .pointer (some ⟨b, 0, none⟩)] w (Ret w (.tuple #[.string ⟨(passText most n rest).1.toArray⟩, .int .i64 ((passText most n rest).2 : Nat)])) := by
  unfold passText at *
  by_cases h1 : most < n
  · rw [if_pos h1]
    clear h
    go_enter Try.func53, Try.ntmps53
    go_wp2_with (fail)
    go_ret2
    exact ⟨rfl, Below.refl _ _⟩
  · rw [if_neg h1] at h ⊢
    by_cases h2 : rest.length < n
    · rw [if_pos h2]
      clear h
      go_enter Try.func53, Try.ntmps53
      go_wp2_with (fail)
      go_ret2
      exact ⟨rfl, Below.refl _ _⟩
    · rw [if_neg h2] at h
      exact absurd rfl h
set_option maxRecDepth 100000 in
set_option maxHeartbeats 400000 in
theorem text1_ok (most : Int) (n : Nat) (rest : List UInt8) (w : World) (a b : Nat) (ha : w.cell? ⟨a, 0, none⟩ = some (.int .i64 most)) (hb : w.heap[b]? = some (.cells #[.string ⟨#[]⟩] 9 (0, 0))) (h : (passText most n rest).2 = 0) :
    Calls Try.prog 53 #[.int .i64 n, .string ⟨rest.toArray⟩, .pointer (some ⟨a, 0, none⟩), .pointer (some ⟨b, 0, none⟩)] w fun e w' => e = .returned (.tuple #[.string ⟨(passText most n rest).1.toArray⟩, .int .i64 0]) ∧
      w' = w.setCell ⟨b, 0, none⟩ (.string ⟨(rest.take n).toArray⟩) := by
  unfold passText at *
  by_cases h1 : most < n
  · rw [if_pos h1] at h; cases h
  · rw [if_neg h1] at h ⊢
    by_cases h2 : rest.length < n
    · rw [if_pos h2] at h; cases h
    · rw [if_neg h2]
      clear h
      have c := cell_of_row w b 0 _ _ _ hb
      have f0 : w.frozen? ⟨b, 0, none⟩ = false := by unfold World.frozen?; rw [hb]; rfl
      have hn1 : (n : Int) ≤ rest.length := by omega
      go_enter Try.func53, Try.ntmps53
      go_wp2_with (fail)
      go_ret2
      exact ⟨rfl, rfl⟩
end Go.Proofs.Ytknoedlelmflhaa
