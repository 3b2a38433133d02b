/- A reader's calls: a number, a text, a flag, how many follow, what is left. -/
import Derived.Test.YtlhgjgiflijobaaCode3
import Derived.Shelf.Abstract
namespace Go.Proofs.Ytlhgjgiflijobaa
open Go.RowKit Plain

theorem enter_num : ∀ args w, (callFunc 23 args).run Try.prog w = .ok (.enter 23 args) w := enters_of Try.func23 (by kernel_rfl) rfl

set_option maxHeartbeats 400000 in
theorem num1 (n : Nat) (rest : List UInt8) (w : World) : Calls Try.prog 23 #[.int .i64 n, .string ⟨rest.toArray⟩] w (Ret w (.tuple #[.string ⟨(passNum n rest).1.toArray⟩, .int .i64 ((passNum n rest).2 : Nat)])) := by
  go_enter Try.func23, Try.ntmps23
  go_wp2_with (fail)
  go_ret2
  exact ⟨rfl, Below.refl _ _⟩

set_option maxHeartbeats 400000 in
theorem RNum_any (br bb : Nat) (s : List UInt8) (f : Nat) (w : World) (h : Rd br bb (s, f) w) :
    Calls Try.prog 11 #[.pointer (some ⟨br, 0, none⟩)] w (RdRet w br bb (takeR passNum (s, f)).2 (.int .i64 ((takeR passNum (s, f)).1 : Nat))) := by
  have hT := take_pure 23 #[] passNum br bb s f w w h (gb_refl _ _) enter_num (fun _ _ => Nat.le_refl _) (fun n rest W _ _ _ => num1 n rest W)
  rcases htr : takeR passNum (s, f) with ⟨n, st⟩
  rw [htr] at hT
  clear htr
  go_enter Try.func11, Try.ntmps11
  go_wp2_with (fail)
  refine hT.mono ?_
  rintro e w1 ⟨rfl, h1, hg1⟩
  go_wp2_with (fail)
  go_ret
  exact ⟨rfl, h1, hg1⟩

theorem passCount_len (most least : Int) (n : Nat) (rest : List UInt8) : (passCount most least n rest).1.length ≤ rest.length := by
  unfold passCount; split
  · simp
  · split <;> simp

set_option maxHeartbeats 400000 in
theorem count1 (most least : Int) (n : Nat) (rest : List UInt8) (w : World) (a b : Nat) (ha : w.cell? ⟨a, 0, none⟩ = some (.int .i64 most)) (hb : w.cell? ⟨b, 0, none⟩ = some (.int .i64 least)) (hn : n < 9223372036854775808) (hr : rest.length ≤ 140737488355328) :
    Calls Try.prog 27 #[.int .i64 n, .string ⟨rest.toArray⟩, .pointer (some ⟨a, 0, none⟩), .pointer (some ⟨b, 0, none⟩)] w (Ret w (.tuple #[.string ⟨(passCount most least n rest).1.toArray⟩, .int .i64 ((passCount most least n rest).2 : Nat)])) := by
  unfold passCount
  by_cases h1 : most < n
  · rw [if_pos h1]
    go_enter Try.func27, Try.ntmps27
    go_wp2_with (fail)
    go_ret2
    exact ⟨rfl, Below.refl _ _⟩
  · rw [if_neg h1]
    by_cases hl : least < 1
    · have hm : (max least 1).toNat = 1 := by omega
      rw [hm, Nat.div_one]
      have hw : wrap64 (rest.length : Int) = rest.length := by unfold wrap64; omega
      by_cases h2 : rest.length < n
      · rw [if_pos h2]
        go_enter Try.func27, Try.ntmps27
        go_wp2_with (fail)
        go_ret2
        exact ⟨rfl, Below.refl _ _⟩
      · rw [if_neg h2]
        go_enter Try.func27, Try.ntmps27
        go_wp2_with (fail)
        go_ret2
        exact ⟨rfl, Below.refl _ _⟩
    · obtain ⟨k, rfl⟩ := Int.eq_ofNat_of_zero_le (show 0 ≤ least by omega)
      have hm : (max (k : Int) 1).toNat = k := by omega
      have hd : rest.length / k ≤ rest.length := Nat.div_le_self _ _
      have hw : wrap64 ((rest.length : Int) / (k : Int)) = ((rest.length / k : Nat) : Int) := by
        rw [← Int.natCast_ediv]; generalize rest.length / k = q at *; unfold wrap64; omega
      have hl' : (1 : Int) ≤ k := by omega
      rw [hm]
      by_cases h2 : rest.length / k < n
      · rw [if_pos h2]
        go_enter Try.func27, Try.ntmps27
        go_wp2_with (fail)
        go_ret2
        exact ⟨rfl, Below.refl _ _⟩
      · rw [if_neg h2]
        go_enter Try.func27, Try.ntmps27
        go_wp2_with (fail)
        go_ret2
        exact ⟨rfl, Below.refl _ _⟩

theorem enter_count : ∀ args w, (callFunc 27 args).run Try.prog w = .ok (.enter 27 args) w := enters_of Try.func27 (by kernel_rfl) rfl
theorem enter_text : ∀ args w, (callFunc 25 args).run Try.prog w = .ok (.enter 25 args) w := enters_of Try.func25 (by kernel_rfl) rfl

set_option maxHeartbeats 400000 in
theorem RCount_any (br bb : Nat) (most least : Int) (s : List UInt8) (f : Nat) (w : World) (h : Rd br bb (s, f) w) :
    Calls Try.prog 17 #[.pointer (some ⟨br, 0, none⟩), .int .i64 most, .int .i64 least] w (RdRet w br bb (takeR (passCount most least) (s, f)).2 (.int .i64 ((takeR (passCount most least) (s, f)).1 : Nat))) := by
  have hb0 := ((Below.refl w.heap.size w).alloc (Nat.le_refl _) (.cells #[.int .i64 most] 3)).alloc (by simp) (.cells #[.int .i64 least] 3)
  have hT := take_pure 27 #[.pointer (some ⟨w.heap.size, 0, none⟩), .pointer (some ⟨w.heap.size + 1, 0, none⟩)] (passCount most least) br bb s f w _ (h.below hb0) (gb_below (gb_refl _ _) hb0) enter_count (passCount_len most least)
    (fun n rest W hW hn hr => count1 most least n rest W _ _ (by rw [hW.cell (by simp; try omega)]; go_simp) (by rw [hW.cell (by simp; try omega)]; go_simp) hn hr)
  rcases htr : takeR (passCount most least) (s, f) with ⟨n, st⟩
  rw [htr] at hT
  clear htr
  go_enter Try.func17, Try.ntmps17
  go_wp2_with (fail)
  refine hT.mono ?_
  rintro e w1 ⟨rfl, h1, hg1⟩
  go_wp2_with (fail)
  go_ret
  exact ⟨rfl, h1, hg1⟩

/-- the text at hand -/
def textR (most : Int) (st : St) : List UInt8 :=
  if st.2 ≠ 0 then [] else if (numR st.1).2.2 ≠ 0 then [] else if (passText most (numR st.1).1 (numR st.1).2.1).2 ≠ 0 then [] else (numR st.1).2.1.take (numR st.1).1

set_option maxHeartbeats 400000 in
theorem text1_bad (most : Int) (n : Nat) (rest : List UInt8) (w : World) (a b : Nat) (ha : w.cell? ⟨a, 0, none⟩ = some (.int .i64 most)) (h : (passText most n rest).2 ≠ 0) :
    Calls Try.prog 25 #[.int .i64 n, .string ⟨rest.toArray⟩, .pointer (some ⟨a, 0, none⟩), .pointer (some ⟨b, 0, none⟩)] w (Ret w (.tuple #[.string ⟨(passText most n rest).1.toArray⟩, .int .i64 ((passText most n rest).2 : Nat)])) := by
  unfold passText at *
  by_cases h1 : most < n
  · rw [if_pos h1]
    clear h
    go_enter Try.func25, Try.ntmps25
    go_wp2_with (fail)
    go_ret2
    exact ⟨rfl, Below.refl _ _⟩
  · rw [if_neg h1] at h ⊢
    by_cases h2 : rest.length < n
    · rw [if_pos h2]
      clear h
      go_enter Try.func25, Try.ntmps25
      go_wp2_with (fail)
      go_ret2
      exact ⟨rfl, Below.refl _ _⟩
    · rw [if_neg h2] at h
      exact absurd rfl h
set_option maxHeartbeats 400000 in
theorem text1_ok (most : Int) (n : Nat) (rest : List UInt8) (w : World) (a b : Nat) (ha : w.cell? ⟨a, 0, none⟩ = some (.int .i64 most)) (hb : w.heap[b]? = some (.cells #[.string ⟨#[]⟩] 9 (0, 0))) (h : (passText most n rest).2 = 0) :
    Calls Try.prog 25 #[.int .i64 n, .string ⟨rest.toArray⟩, .pointer (some ⟨a, 0, none⟩), .pointer (some ⟨b, 0, none⟩)] w fun e w' => e = .returned (.tuple #[.string ⟨(passText most n rest).1.toArray⟩, .int .i64 0]) ∧
      w' = w.setCell ⟨b, 0, none⟩ (.string ⟨(rest.take n).toArray⟩) := by
  unfold passText at *
  by_cases h1 : most < n
  · rw [if_pos h1] at h; cases h
  · rw [if_neg h1] at h ⊢
    by_cases h2 : rest.length < n
    · rw [if_pos h2] at h; cases h
    · rw [if_neg h2]
      clear h
      have c := cell_of_row w b 0 _ _ _ hb
      have f0 : w.frozen? ⟨b, 0, none⟩ = false := by unfold World.frozen?; rw [hb]; rfl
      have hn1 : (n : Int) ≤ rest.length := by omega
      go_enter Try.func25, Try.ntmps25
      go_wp2_with (fail)
      go_ret2
      exact ⟨rfl, rfl⟩
end Go.Proofs.Ytlhgjgiflijobaa
