/- hawserlaw02.GlobLiteral: a path made a pattern matches that path, and of paths with a '/' no other. The condition: the arguments' bulk is what a machine can hold (Upto). -/
import Derived.Test.YtgppfcaghjbjmaaGreatDoorBLitBase5
import Derived.Test.YtgppfcaghjbjmaaGreatDoorBGlobLBase4
import Derived.Test.YtgppfcaghjbjmaaGreatDoorBGlobLBase5
import Derived.Test.YtgppfcaghjbjmaaGreatDoorBGlobLBase6
set_option linter.unusedSimpArgs false
set_option linter.unusedVariables false

/- A path made a pattern matches that path and no other: plain law. -/
section
set_option linter.unusedVariables false
namespace Go.Proofs.YtgppfcaghjbjmaaGreatDoor
namespace Plain
open Go.Lib

theorem escM_cons (c : UInt8) (r : List UInt8) : escM (c :: r) = escC c ++ escM r := by unfold escM; rw [List.flatMap_cons]
theorem escM_append (a b : List UInt8) : escM (a ++ b) = escM a ++ escM b := by unfold escM; rw [List.flatMap_append]
theorem escM_plain {l : List UInt8} (h : ∀ c ∈ l, isKey c = false) : escM l = l := escM_id (by rw [List.countP_eq_zero]; intro c hc; rw [h c hc]; simp)
theorem key_lo {c : UInt8} (h : isKey c = true) : c.toNat < 128 := by
  unfold isKey at h
  simp only [Bool.or_eq_true, beq_iff_eq] at h
  rcases h with ((rfl | rfl) | rfl) | rfl <;> decide
theorem key_not {c : UInt8} (h : 128 ≤ c.toNat) : isKey c = false := by
  cases hk : isKey c with
  | false => rfl
  | true => have := key_lo hk; omega
theorem noKey_ne {c : UInt8} (h : isKey c = false) : c ≠ 92 ∧ c ≠ 91 ∧ c ≠ 63 ∧ c ≠ 42 := by
  unfold isKey at h
  simp only [Bool.or_eq_false_iff, beq_eq_false_iff_ne] at h
  exact ⟨h.1.1.1, h.1.1.2, h.1.2, h.2⟩
/-- the rune at the beginning stands as it was -/
theorem esc_rune {l : List UInt8} (hne : l ≠ []) (hv : validD l = true) : escM (runeT l) = (if isKey (l.getD 0 0) then [92] else []) ++ runeT l ∧ (isKey (l.getD 0 0) = true → runeW l = 1) := by
  obtain ⟨hw, _⟩ := valid_next hne hv
  cases l with
  | nil => exact absurd rfl hne
  | cons c r =>
    cases hk : isKey c with
    | true =>
      have h1 : runeW (c :: r) = 1 := runeW_asc (c :: r) 0 (key_lo hk)
      refine ⟨?_, fun _ => h1⟩
      rw [show (c :: r).getD 0 0 = c from rfl, hk, if_pos rfl]
      unfold runeT
      rw [h1]
      show escM [c] = [92] ++ [c]
      rw [escM_cons]; unfold escC; rw [if_pos hk]; rfl
    | false =>
      refine ⟨?_, fun h => by rw [show (c :: r).getD 0 0 = c from rfl, hk] at h; cases h⟩
      rw [show (c :: r).getD 0 0 = c from rfl, hk]
      rw [if_neg (by simp), List.nil_append]
      refine escM_plain fun d hd => ?_
      unfold runeT at hd
      obtain ⟨i, hi, rfl⟩ := List.getElem_of_mem hd
      have hlen := runeW_le' hne
      have hi' : i < runeW (c :: r) ∧ i < (c :: r).length := by rw [List.length_take] at hi; omega
      rw [List.getElem_take]
      cases i with
      | zero => exact hk
      | succ i =>
        have := rune_tail hne hw (i := i + 1) (by omega) hi'.1
        refine key_not ?_
        rw [List.getD_eq_getElem?_getD, List.getElem?_eq_getElem hi'.2, Option.getD_some] at this
        exact this
theorem esc_split {l : List UInt8} (hne : l ≠ []) (hv : validD l = true) : escM l = (if isKey (l.getD 0 0) then [92] else []) ++ (runeT l ++ escM (l.drop (runeW l))) := by
  have h := (esc_rune hne hv).1
  have : l = runeT l ++ l.drop (runeW l) := by unfold runeT; rw [List.take_append_drop]
  conv => lhs; rw [this]
  rw [escM_append, h, List.append_assoc]
/-- what stands behind a rune does not change it -/
theorem rune_front {l : List UInt8} (hne : l ≠ []) (hv : validD l = true) (q : List UInt8) : runeW (runeT l ++ q) = runeW l ∧ runeT (runeT l ++ q) = runeT l ∧ (runeT l ++ q).drop (runeW l) = q ∧ (runeT l).getD 0 0 = l.getD 0 0 ∧ runeT l ≠ [] := by
  obtain ⟨hw, _⟩ := valid_next hne hv
  have hle := runeW_le' hne
  have hlen : (runeT l).length = runeW l := by unfold runeT; rw [List.length_take]; omega
  have hne2 : runeT l ≠ [] := by intro e; rw [e] at hlen; simp at hlen; omega
  have ht : (runeT l ++ q).take (runeW l) = runeT l := by rw [← hlen, List.take_left']; rfl
  have hwt : runeW (runeT l) = runeW l := runeW_take hw (Nat.le_refl _) hle
  have hW : runeW (runeT l ++ q) = runeW l := by
    have := runeW_ext (l := runeT l ++ q) (e := runeW l) (by rw [ht, hwt]; exact hw) (by rw [List.length_append]; omega) (by rw [ht]; exact hne2)
    rw [this, ht, hwt]
  refine ⟨hW, ?_, ?_, ?_, hne2⟩
  · show (runeT l ++ q).take (runeW (runeT l ++ q)) = runeT l
    rw [hW, ht]
  · rw [← hlen, List.drop_left']; rfl
  · exact runeT_getD (by omega)
theorem valid_front {l : List UInt8} (hne : l ≠ []) (hv : validD l = true) (q : List UInt8) : validD (runeT l ++ q) = validD q := by
  obtain ⟨hw, _⟩ := valid_next hne hv
  obtain ⟨h1, h2, h3, h4, h5⟩ := rune_front hne hv q
  have hn : runeT l ++ q ≠ [] := by intro e; exact h5 (List.append_eq_nil_iff.1 e).1
  have := validD_rune (runeT l ++ q) 0 (List.length_pos_iff.2 hn)
  rw [List.drop_zero, h1, if_neg (by omega), Nat.zero_add, h3] at this
  exact this
theorem valid_esc : ∀ (n : Nat) (l : List UInt8), l.length ≤ n → validD l = true → validD (escM l) = true := by
  intro n
  induction n with
  | zero =>
    intro l hl _
    rw [List.eq_nil_of_length_eq_zero (by omega : l.length = 0)]
    rfl
  | succ n ih =>
    intro l hl hv
    by_cases hne : l = []
    · rw [hne]; rfl
    · obtain ⟨hw, hd⟩ := valid_next hne hv
      have h1 := ih (l.drop (runeW l)) (by rw [List.length_drop]; omega) hd
      rw [esc_split hne hv]
      split
      · have e : [92] ++ (runeT l ++ escM (l.drop (runeW l))) = 92 :: (runeT l ++ escM (l.drop (runeW l))) := rfl
        rw [e, validD_cons _ _ (by decide), valid_front hne hv]
        exact h1
      · rw [List.nil_append, valid_front hne hv]
        exact h1
/-- each rune is taken by itself alone -/
theorem toks_esc : ∀ (n : Nat) (l : List UInt8), l.length ≤ n → validD l = true → toksP (escM l) = (runesP l).map (fun t => some (fun r => t == r)) := by
  intro n
  induction n with
  | zero =>
    intro l hl _
    rw [List.eq_nil_of_length_eq_zero (by omega : l.length = 0)]
    rfl
  | succ n ih =>
    intro l hl hv
    by_cases hne : l = []
    · rw [hne]; rfl
    · obtain ⟨hw, hd⟩ := valid_next hne hv
      have h1 := ih (l.drop (runeW l)) (by rw [List.length_drop]; omega) hd
      obtain ⟨f1, f2, f3, f4, f5⟩ := rune_front hne hv (escM (l.drop (runeW l)))
      rw [esc_split hne hv, runesP_step hne hw, List.map_cons, ← h1]
      cases hk : isKey (l.getD 0 0) with
      | true =>
        rw [if_pos rfl]
        have e : [92] ++ (runeT l ++ escM (l.drop (runeW l))) = 92 :: (runeT l ++ escM (l.drop (runeW l))) := rfl
        rw [e]
        have ho : ∀ r, oneP (92 :: (runeT l ++ escM (l.drop (runeW l)))) r = (runeT l == r, 1 + runeW l) := fun r => by
          unfold oneP
          simp only
          rw [if_neg (by decide), if_pos trivial, f1, f2]
        generalize hQ : runeT l ++ escM (l.drop (runeW l)) = Q at *
        have hw92 : 1 ≤ (oneP (92 :: Q) []).2 := by rw [ho []]; exact Nat.le_add_right 1 _
        rw [toksP_one (c := 92) (p := Q) (by decide) hw92, ho []]
        have hf : (fun r => (oneP (92 :: Q) r).1) = (fun r => runeT l == r) := by funext r; rw [ho r]
        rw [hf, Nat.add_comm 1, List.drop_succ_cons, f3]
      | false =>
        rw [if_neg (by simp), List.nil_append]
        obtain ⟨c, q, hcq⟩ : ∃ c q, runeT l ++ escM (l.drop (runeW l)) = c :: q := by
          cases h : runeT l with
          | nil => exact absurd h f5
          | cons c q => exact ⟨c, q ++ escM (l.drop (runeW l)), rfl⟩
        have hc : c = l.getD 0 0 := by
          rw [← f4]
          cases h : runeT l with
          | nil => exact absurd h f5
          | cons d q' => rw [h, List.cons_append] at hcq; rw [← (List.cons.inj hcq).1]; rfl
        rw [← hc] at hk
        obtain ⟨n92, n91, n63, n42⟩ := noKey_ne hk
        have ho : ∀ r, oneP (c :: q) r = (runeT l == r, runeW l) := fun r => by
          unfold oneP
          simp only
          rw [if_neg n63, if_neg n92, if_neg n91, ← hcq, f1, f2]
        have hf : (fun r => (oneP (c :: q) r).1) = (fun r => runeT l == r) := by funext r; rw [ho r]
        rw [hcq, toksP_one n42 (by rw [ho []]; exact hw), ho [], hf]
        rw [← hcq, f3]
theorem match_same {R : Type} [BEq R] [LawfulBEq R] : ∀ (l m : List R), matchT (l.map (fun t => some (fun r => t == r))) m = (l == m)
  | [], [] => by simp [matchT]
  | [], y :: m => by simp [matchT]
  | x :: l, [] => by simp [matchT]
  | x :: l, y :: m => by
    rw [List.map_cons]
    simp only [matchT]
    rw [match_same l m]
    rfl
theorem part_esc {x y : List UInt8} (hx : validD x = true) (hy : validD y = true) : partP (escM x) y = (x == y) := by
  unfold partP
  rw [toks_esc _ x (Nat.le_refl _) hx, match_same]
  rw [Bool.eq_iff_iff, beq_iff_eq, beq_iff_eq]
  constructor
  · intro h
    rw [← (runes_valid _ x (Nat.le_refl _) hx).2, h, (runes_valid _ y (Nat.le_refl _) hy).2]
  · intro h; rw [h]
/-- no '/' is made, none is lost -/
theorem esc_slash (x : List UInt8) : 47 ∈ escM x ↔ 47 ∈ x := by
  induction x with
  | nil => simp [escM]
  | cons c r ih =>
    rw [escM_cons, List.mem_append, ih, List.mem_cons]
    unfold escC
    split
    · rename_i h
      have : c ≠ 47 := by rintro rfl; cases h
      simp [Ne.symm this]
    · simp
theorem esc_join : ∀ (l : List (List UInt8)), escM (joinS l) = joinS (l.map escM)
  | [] => rfl
  | [x] => rfl
  | x :: y :: r => by
    rw [joinS_cons x (y :: r) (by simp), escM_append, escM_cons, esc_join (y :: r)]
    rw [show (x :: y :: r).map escM = escM x :: (y :: r).map escM from rfl, joinS_cons (escM x) ((y :: r).map escM) (by simp)]
    rfl
theorem esc_parts (s : List UInt8) : parts (escM s) = (parts s).map escM := by
  conv => lhs; rw [← join_parts s, esc_join]
  refine parts_join _ (by simpa using parts_ne s) fun x hx => ?_
  obtain ⟨y, hy, rfl⟩ := List.mem_map.1 hx
  rw [esc_slash]
  exact parts_no s y hy
theorem esc_not_stars (x : List UInt8) : escM x ≠ [42, 42] := by
  intro h
  cases x with
  | nil => cases h
  | cons c r =>
    rw [escM_cons] at h
    unfold escC at h
    split at h
    · injection h with h1 _
      cases h1
    · rename_i hk
      injection h with h1 _
      subst h1
      exact hk rfl
theorem esc_nil (x : List UInt8) : escM x = [] ↔ x = [] := by
  constructor
  · intro h
    cases x with
    | nil => rfl
    | cons c r =>
      rw [escM_cons] at h
      unfold escC at h
      split at h <;> simp at h
  · rintro rfl; rfl
theorem parts_esc_same : ∀ (l m : List (List UInt8)), (∀ x ∈ l, validD x = true) → (∀ y ∈ m, validD y = true) → matchT ((l.map escM).map partsTok) m = (l == m)
  | [], [], _, _ => by simp [matchT]
  | [], y :: m, _, _ => by simp [matchT]
  | x :: l, [], _, _ => by
    rw [List.map_cons, List.map_cons, partsTok_no (esc_not_stars x)]
    simp [matchT]
  | x :: l, y :: m, hl, hm => by
    rw [List.map_cons, List.map_cons, partsTok_no (esc_not_stars x)]
    simp only [matchT]
    rw [parts_esc_same l m (fun z hz => hl z (by simp [hz])) (fun z hz => hm z (by simp [hz])), part_esc (hl x (by simp)) (hm y (by simp))]
    rfl
theorem name_valid {x : List UInt8} (h : nameOK x = true) : validD x = true ∧ x ≠ [] := by
  unfold nameOK at h
  simp only [Bool.and_eq_true] at h
  refine ⟨h.1.1.2, ?_⟩
  rintro rfl
  have := h.1.1.1.1.1.1
  cases this
theorem path_names {s : List UInt8} (h : pathOK s = true) : ∀ x ∈ parts s, nameOK x = true := by
  unfold pathOK at h
  rw [Bool.and_eq_true, List.all_eq_true] at h
  exact h.2
theorem valid_app : ∀ (n : Nat) (l q : List UInt8), l.length ≤ n → validD l = true → validD (l ++ q) = validD q := by
  intro n
  induction n with
  | zero =>
    intro l q hl _
    rw [List.eq_nil_of_length_eq_zero (by omega : l.length = 0)]
    rfl
  | succ n ih =>
    intro l q hl hv
    by_cases hne : l = []
    · rw [hne]; rfl
    · obtain ⟨hw, hd⟩ := valid_next hne hv
      have e : l ++ q = runeT l ++ (l.drop (runeW l) ++ q) := by rw [← List.append_assoc]; unfold runeT; rw [List.take_append_drop]
      rw [e, valid_front hne hv, ih _ _ (by rw [List.length_drop]; omega) hd]
theorem valid_join : ∀ (l : List (List UInt8)), (∀ x ∈ l, validD x = true) → validD (joinS l) = true
  | [], _ => rfl
  | [x], h => h x (by simp)
  | x :: y :: r, h => by
    rw [joinS_cons _ _ (by simp), valid_app _ x _ (Nat.le_refl _) (h x (by simp)), validD_cons _ _ (by decide)]
    exact valid_join (y :: r) (fun z hz => h z (by simp [hz]))
theorem parts_cons_slash (r : List UInt8) : parts (47 :: r) = [] :: parts r := parts_first [] r (by simp)
theorem parts_cons_ne {c : UInt8} (r : List UInt8) (h : c ≠ 47) : (parts (c :: r)).tail = (parts r).tail := by
  by_cases h47 : 47 ∈ r
  · obtain ⟨a, b, rfl, ha⟩ := first_c (c := 47) r h47
    rw [show c :: (a ++ 47 :: b) = (c :: a) ++ 47 :: b from rfl, parts_first _ _ (by simp [ha, Ne.symm h]), parts_first _ _ ha]
    rfl
  · rw [parts_none _ h47, parts_none _ (by simp [h47, Ne.symm h])]
    rfl
/-- its elements are well formed: each '/' stands between names -/
theorem loop_esc : ∀ (s : List UInt8) (f k : Nat) (b : Bool), (escM s).length ≤ f → (b = false → ∀ x ∈ parts s, x ≠ []) → (b = true → ∀ x ∈ (parts s).tail, x ≠ []) → (loopC f k b (escM s)).2 = 0
  | [], f, k, b, _, _, _ => by cases f <;> rfl
  | c :: r, f, k, b, hf, h0, h1 => by
    rw [escM_cons] at hf ⊢
    cases hk : isKey c with
    | true =>
      have e : escC c = [92, c] := by unfold escC; rw [if_pos hk]
      rw [e] at hf ⊢
      have hc : c ≠ 47 := by rintro rfl; cases hk
      obtain ⟨g, rfl⟩ : ∃ g, f = g + 1 := ⟨f - 1, by simp at hf; omega⟩
      show (loopC (g + 1) k b (92 :: c :: escM r)).2 = 0
      unfold loopC
      rw [if_neg (by decide), if_pos rfl]
      simp only
      rw [if_neg hc]
      refine loop_esc r g (k + 2) true (by simp at hf; omega) (fun h => by cases h) (fun _ => ?_)
      rw [← parts_cons_ne r hc]
      cases b with
      | true => exact h1 rfl
      | false => exact fun x hx => h0 rfl x (List.mem_of_mem_tail hx)
    | false =>
      have e : escC c = [c] := by unfold escC; rw [hk]; rfl
      rw [e] at hf ⊢
      obtain ⟨n92, n91, n63, n42⟩ := noKey_ne hk
      obtain ⟨g, rfl⟩ : ∃ g, f = g + 1 := ⟨f - 1, by simp at hf; omega⟩
      show (loopC (g + 1) k b (c :: escM r)).2 = 0
      by_cases hc : c = 47
      · subst hc
        rw [parts_cons_slash] at h0 h1
        have hb : b = true := by
          cases b with
          | true => rfl
          | false => exact absurd rfl (h0 rfl [] (by simp))
        subst hb
        have hr : r ≠ [] := by
          rintro rfl
          exact h1 rfl [] (by simp [parts, cutAt]) rfl
        unfold loopC
        rw [if_pos rfl, if_neg (by rw [esc_nil]; simp [hr])]
        exact loop_esc r g (k + 1) false (by simp at hf; omega) (fun _ => by simpa using h1 rfl) (fun h => by cases h)
      · unfold loopC
        rw [if_neg hc, if_neg n92, if_neg n91]
        refine loop_esc r g (k + 1) true (by simp at hf; omega) (fun h => by cases h) (fun _ => ?_)
        rw [← parts_cons_ne r hc]
        cases b with
        | true => exact h1 rfl
        | false => exact fun x hx => h0 rfl x (List.mem_of_mem_tail hx)
theorem esc_ok {s : List UInt8} (h : pathOK s = true) (hl : (escM s).length ≤ 400) : okG (escM s) = true := by
  have hn := path_names h
  have hv : validD s = true := by rw [← join_parts s]; exact valid_join _ (fun x hx => (name_valid (hn x hx)).1)
  have hne := pathOK_ne h
  unfold okG checkP
  rw [if_neg (by rw [esc_nil]; rintro (q | q); exact hne q; omega), (badP_valid _).2 (valid_esc _ s (Nat.le_refl _) hv)]
  simp only
  rw [loop_esc s _ 0 false (Nat.le_refl _) (fun _ x hx => (name_valid (hn x hx)).2) (fun h => by cases h)]
  rfl
/-- a path made a pattern matches that path, and of paths with a '/' no other -/
theorem lit_match {s o : List UInt8} (h : pathOK s = true) (hl : (escM s).length ≤ 400) : matchG (escM s) o = if 47 ∈ s then o == s else pathOK o && baseM o == s := by
  have hn := path_names h
  unfold matchG
  rw [esc_ok h hl, if_neg (esc_not_stars s), Bool.true_and]
  cases ho : pathOK o with
  | false =>
    have hne : (o == s) = false := by
      rw [beq_eq_false_iff_ne]
      rintro rfl
      rw [h] at ho; cases ho
    rw [hne]
    simp
  | true =>
    have hno := path_names ho
    rw [Bool.true_and, Bool.true_and]
    by_cases h47 : 47 ∈ s
    · rw [if_pos ((esc_slash s).2 h47), if_pos h47]
      unfold partsP
      rw [esc_parts, parts_esc_same _ _ (fun x hx => (name_valid (hn x hx)).1) (fun x hx => (name_valid (hno x hx)).1)]
      rw [Bool.eq_iff_iff, beq_iff_eq, beq_iff_eq]
      constructor
      · intro e; rw [← join_parts s, e, join_parts]
      · intro e; rw [e]
    · rw [if_neg (fun q => h47 ((esc_slash s).1 q)), if_neg h47]
      have hs : parts s = [s] := parts_none s h47
      have hvs : validD s = true := (name_valid (hn s (by rw [hs]; simp))).1
      have hvb : validD (baseM o) = true := by
        rw [base_last ho]
        exact (name_valid (hno _ (List.getLast_mem _))).1
      rw [part_esc hvs hvb]
      rw [Bool.eq_iff_iff, beq_iff_eq, beq_iff_eq]
      exact ⟨fun e => e.symm, fun e => e.symm⟩
end Plain
end Go.Proofs.YtgppfcaghjbjmaaGreatDoor
end

/- hawserref01.Split, Parent, Base. -/
section
namespace Go.Proofs.YtgppfcaghjbjmaaGreatDoor
open Go.RowKit Plain

theorem Split_ref (s : List UInt8) (w : World) (hs : s.length ≤ 8796093022200) :
    Calls Tryz.prog 28 #[.string ⟨s.toArray⟩] w (StrsOut w (splitM s)) := by
  have hp := Path_ref s w hs
  have HS := Lib.hid (fun W => Parts_ref s W hs)
  unfold splitM
  generalize parts s = l at *
  cases hok : pathOK s with
  | false =>
    rw [hok] at hp
    have HP := Lib.hid hp
    clear hp hok
    go_enter Tryz.func28, Tryz.ntmps28
    go_wp2_with (fail)
    refine HP.out.mono ?_
    rintro e w1 ⟨rfl, hw1⟩
    go_wp2_with (fail)
    go_ret
    exact ⟨none, 0, rfl, Nat.le_refl _, Nat.zero_le _, Reads.nil _ _ _, hw1, fun _ => rfl⟩
  | true =>
    rw [hok] at hp
    have HP := Lib.hid hp
    clear hp hok
    rw [if_pos rfl]
    go_enter Tryz.func28, Tryz.ntmps28
    go_wp2_with (fail)
    refine HP.out.mono ?_
    rintro e w1 ⟨rfl, hw1⟩
    go_wp2_with (fail)
    refine (HS.out _).mono ?_
    rintro e w2 ⟨A, c, rfl, hc, hm, hr, hw2, h0⟩
    go_wp2_with (fail)
    go_ret
    exact ⟨A, c, rfl, hc, hm, hr, hw1.trans (hw2.mono hw1.size), h0⟩

theorem splitM_length (s : List UInt8) : (splitM s).length ≤ 401 := by
  unfold splitM
  split
  · rename_i h
    have := pathOK_len h
    have := List.count_le_length (a := (47 : UInt8)) (l := s)
    rw [parts_length]; omega
  · simp
theorem Base_ref (s : List UInt8) (w : World) (hs : s.length ≤ 8796093022200) :
    Calls Tryz.prog 12 #[.string ⟨s.toArray⟩] w (Ret w (.string ⟨(baseM s).toArray⟩)) := by
  have hS := Split_ref s w hs
  by_cases hok : pathOK s = true
  · have hsp : splitM s = parts s := by unfold splitM; rw [if_pos hok]
    have hl := splitM_length s
    rw [hsp] at hS hl
    have hb : baseM s = (parts s).getLast (parts_ne s) := by unfold baseM; rw [if_pos hok]
    have hlast : (parts s)[(parts s).length - 1]? = some (baseM s) := by
      rw [hb, ← List.getLast?_eq_getElem?, List.getLast?_eq_some_getLast (parts_ne s)]
    have HPN := Lib.hid (show 1 ≤ (parts s).length by rw [parts_length]; omega)
    clear hb
    generalize baseM s = q at *
    generalize parts s = L at *
    have HS := Lib.hid hS
    have HLAST := Lib.hid hlast
    clear hS hok hsp hlast
    go_enter Tryz.func12, Tryz.ntmps12
    go_wp2_with (fail)
    refine HS.out.mono ?_
    rintro e w1 ⟨A, c, rfl, hc, hm, hr, hw1, hA0⟩
    have hpn := HPN.out
    obtain ⟨ad, rfl, hc1⟩ := hr.str_at (show L.length - 1 < L.length by omega)
    have hg : L[L.length - 1]'(by omega) = q := by
      have h := HLAST.out
      rw [List.getElem?_eq_getElem (by omega)] at h
      injection h
    rw [hg] at hc1
    have e1 : IntKind.i64.wrap ((L.length : Int) - 1) = (L.length : Int) - 1 := IntWalk.i64_in _ (by omega)
    have e2 : ((L.length : Int) - 1).toNat = L.length - 1 := by omega
    have e3 : (0 : Int) ≤ (L.length : Int) - 1 := by omega
    have e4 : ((L.length : Int) == 0) = false := by rw [beq_eq_false_iff_ne]; omega
    clear hr hg
    go_wp2_with (fail)
    go_ret
    exact ⟨rfl, hw1⟩
  · have hf : pathOK s = false := by simpa using hok
    have hsp : splitM s = [] := by unfold splitM; rw [hf]; rfl
    have hpar : baseM s = [] := by unfold baseM; rw [hf]; rfl
    rw [hsp] at hS
    rw [hpar]
    have HS := Lib.hid hS
    clear hS hok hf hsp hpar
    go_enter Tryz.func12, Tryz.ntmps12
    go_wp2_with (fail)
    refine HS.out.mono ?_
    rintro e w1 ⟨A, c, rfl, hc, hm, hr, hw1, hA0⟩
    go_wp2_with (fail)
    go_ret
    exact ⟨rfl, hw1⟩

end Go.Proofs.YtgppfcaghjbjmaaGreatDoor
end

section
set_option linter.unusedVariables false
namespace Go.Proofs.YtgppfcaghjbjmaaGreatDoor
open Go.RowKit Plain

def slashTo (s : List UInt8) (i : Nat) : Bool := decide (47 ∈ s.take i)
theorem slashTo_zero (s : List UInt8) : slashTo s 0 = false := by unfold slashTo; simp
theorem slashTo_all (s : List UInt8) : slashTo s s.length = decide (47 ∈ s) := by unfold slashTo; rw [List.take_length]
theorem slashTo_step {s : List UInt8} {i : Nat} (h : i < s.length) : slashTo s (i + 1) = (slashTo s i || ((s[i].toNat : Int) == 47)) := by
  unfold slashTo
  rw [List.take_add_one, List.getElem?_eq_getElem h]
  rw [Bool.eq_iff_iff]
  simp only [decide_eq_true_eq, Bool.or_eq_true, List.mem_append, Option.toList_some, List.mem_singleton, beq_iff_eq]
  constructor
  · rintro (q | q)
    · exact .inl q
    · rw [← q]; exact .inr rfl
  · rintro (q | q)
    · exact .inl q
    · exact .inr (UInt8.toNat_inj.1 (by show (47 : UInt8).toNat = _; have : (47 : UInt8).toNat = 47 := rfl; omega))

set_option maxHeartbeats 2000000 in
set_option maxRecDepth 100000 in
theorem GlobLiteral_any (s o : List UInt8) (m : Int) (w : World) (hL : Laid w m) (hs : s.length ≤ 8796093022200) (ho : o.length ≤ 8796093022200) :
    Calls Tryz.prog 4 #[.string ⟨s.toArray⟩, .string ⟨o.toArray⟩] w (Ret w (.bool true)) := by
  have HAW := Lib.hid (awake_any m w hL)
  have HL := Lib.hid (fun W (h : Below w.heap.size w W) => Literal_any s W (hL.below h).1)
  have HP := Lib.hid (fun W => Path_ref s W hs)
  cases hp : pathOK s with
  | false =>
    have hlit : litP s = [] := by unfold litP; rw [hp]; rfl
    rw [hlit] at HL
    rw [hp] at HP
    clear hL
    go_enter Tryz.func4, Tryz.ntmps4
    go_wp2_with (first | (go_at_call 5; refine HAW.out.mono ?_; rintro e w1 ⟨rfl, hw1⟩; have HB1 := Lib.hid hw1; clear hw1) | (go_at_call 8; refine (HL.out _ HB1.out).mono ?_; rintro e w2 ⟨rfl, hw2⟩; have HB2 := Lib.hid (HB1.out.trans (hw2.mono HB1.out.size)); clear hw2) | (go_at_call 10; refine (HP.out _).mono ?_; rintro e w3 ⟨rfl, hw3⟩; have HB3 := Lib.hid (HB2.out.trans (hw3.mono HB2.out.size)); clear hw3))
    go_ret
    exact ⟨rfl, HB3.out⟩
  | true =>
    have hlit : litP s = escM s := by unfold litP; rw [hp]; rfl
    rw [hlit] at HL
    rw [hp] at HP
    have hsl := pathOK_len hp
    have hel : (escM s).length ≤ 9223372036854775807 := by rw [escM_len]; have := List.countP_le_length (p := isKey) (l := s); omega
    by_cases h4 : (escM s).length ≤ 400
    · have HM := Lib.hid (fun W (h : Below w.heap.size w W) => Match_any (escM s) o m W (hL.below h) hel (by omega))
      have HM2 := Lib.hid (fun W (h : Below w.heap.size w W) => Match_any (escM s) s m W (hL.below h) hel (by omega))
      have HPo := Lib.hid (fun W => Path_ref o W ho)
      have HBo := Lib.hid (fun W => Base_ref o W ho)
      have hself : matchG (escM s) s = true := by
        rw [lit_match hp h4]
        split
        · simp
        · rename_i h47
          rw [hp, base_last hp]
          have hs1 : parts s = [s] := parts_none s h47
          simp [hs1]
      rw [hself] at HM2
      rw [lit_match hp h4] at HM
      clear hL hself hlit hel
      generalize escM s = l at *
      have h4' : decide ((400 : Int) < (l.length : Int)) = false := by simp; omega
      go_enter Tryz.func4, Tryz.ntmps4
      go_wp2_with (first | (go_at_call 5; refine HAW.out.mono ?_; rintro e w1 ⟨rfl, hw1⟩; have HB1 := Lib.hid hw1; clear hw1) | (go_at_call 8; refine (HL.out _ HB1.out).mono ?_; rintro e w2 ⟨rfl, hw2⟩; have HB2 := Lib.hid (HB1.out.trans (hw2.mono HB1.out.size)); clear hw2) | (go_at_call 10; refine (HP.out _).mono ?_; rintro e w3 ⟨rfl, hw3⟩; have HB3 := Lib.hid (HB2.out.trans (hw3.mono HB2.out.size)); clear hw3))
      go_loopw [6, 7] (fun t6 t7 W => ∃ i : Nat, i ≤ s.length ∧ t7 = .int .i64 (i : Nat) ∧ t6 = .bool (slashTo s i) ∧ W = w3) (fun _ t7 _ => s.length - (intOf t7).toNat)
      case atStart => exact ⟨0, by omega, rfl, by rw [slashTo_zero], rfl⟩
      case round =>
        obtain ⟨i, hi, rfl, rfl, rfl⟩ := hrel
        by_cases hlt : i < s.length
        · have hk0 : (0 : Int) ≤ i := by omega
          have hki : (i : Int) < s.length := by omega
          have hst := slashTo_step hlt
          cases hb : slashTo s i with
          | true =>
            rw [hb, Bool.true_or] at hst
            have HST := Lib.hid hst
            clear hst hb
            go_wp2_with (fail)
            go_roundw
            case rel => exact ⟨i + 1, by omega, by go_num, by rw [HST.out], by first | trivial | rfl⟩
            case measure => simp [intOf]; omega
          | false =>
            rw [hb, Bool.false_or] at hst
            have HST := Lib.hid hst
            clear hst hb
            go_wp2_with (fail)
            go_roundw
            case rel => exact ⟨i + 1, by omega, by go_num, by rw [HST.out], by first | trivial | rfl⟩
            case measure => simp [intOf]; omega
        · have hi' : i = s.length := by omega
          subst hi'
          rw [slashTo_all]
          by_cases h47 : 47 ∈ s
          · rw [decide_eq_true h47]
            rw [if_pos h47] at HM
            go_wp2_with (fail)
            refine (HM.out _ HB3.out).mono ?_
            rintro e w4 ⟨rfl, hw4⟩
            have HB4 := Lib.hid (HB3.out.trans (hw4.mono HB3.out.size))
            clear hw4
            go_wp2_with (fail)
            refine (HM2.out _ HB4.out).mono ?_
            rintro e w5 ⟨rfl, hw5⟩
            have HB5 := Lib.hid (HB4.out.trans (hw5.mono HB4.out.size))
            clear hw5
            go_wp2_with (fail)
            go_ret
            exact ⟨by simp, HB5.out⟩
          · rw [decide_eq_false h47]
            rw [if_neg h47] at HM
            go_wp2_with (fail)
            refine (HM.out _ HB3.out).mono ?_
            rintro e w4 ⟨rfl, hw4⟩
            have HB4 := Lib.hid (HB3.out.trans (hw4.mono HB3.out.size))
            clear hw4
            go_wp2_with (fail)
            refine (HM2.out _ HB4.out).mono ?_
            rintro e w5 ⟨rfl, hw5⟩
            have HB5 := Lib.hid (HB4.out.trans (hw5.mono HB4.out.size))
            clear hw5
            cases hpo : pathOK o with
            | false =>
              rw [hpo] at HPo HM
              go_wp2_with (fail)
              refine (HPo.out _).mono ?_
              rintro e w6 ⟨rfl, hw6⟩
              have HB6 := Lib.hid (HB5.out.trans (hw6.mono HB5.out.size))
              clear hw6
              go_wp2_with (fail)
              go_ret
              exact ⟨by simp, HB6.out⟩
            | true =>
              rw [hpo] at HPo HM
              go_wp2_with (fail)
              refine (HPo.out _).mono ?_
              rintro e w6 ⟨rfl, hw6⟩
              have HB6 := Lib.hid (HB5.out.trans (hw6.mono HB5.out.size))
              clear hw6
              go_wp2_with (fail)
              refine (HBo.out _).mono ?_
              rintro e w7 ⟨rfl, hw7⟩
              have HB7 := Lib.hid (HB6.out.trans (hw7.mono HB6.out.size))
              clear hw7
              go_wp2_with (fail)
              go_ret
              exact ⟨by simp, HB7.out⟩
    · have h4' : decide ((400 : Int) < ((escM s).length : Int)) = true := by simp; omega
      clear hL hlit hel
      generalize escM s = l at *
      go_enter Tryz.func4, Tryz.ntmps4
      go_wp2_with (first | (go_at_call 5; refine HAW.out.mono ?_; rintro e w1 ⟨rfl, hw1⟩; have HB1 := Lib.hid hw1; clear hw1) | (go_at_call 8; refine (HL.out _ HB1.out).mono ?_; rintro e w2 ⟨rfl, hw2⟩; have HB2 := Lib.hid (HB1.out.trans (hw2.mono HB1.out.size)); clear hw2) | (go_at_call 10; refine (HP.out _).mono ?_; rintro e w3 ⟨rfl, hw3⟩; have HB3 := Lib.hid (HB2.out.trans (hw3.mono HB2.out.size)); clear hw3))
      go_ret
      exact ⟨rfl, HB3.out⟩

open Go.ChangeShapes Go.WideShapes Go.ChangeAt in
set_option maxRecDepth 100000 in
/-- What the walk gives, for every argument. -/
theorem GlobLiteral_contract (H : Type) (enc : TypeId × Value → H) (W : World) (base : Nat) (args : Array Value) (ds gs : List (DataW H)) (before : List MemPlace)
    (hval : ∀ (j : Nat) t v, Tryz.f4.params[j]? = some t → args[j]? = some v → Value.okWide Tryz.prog W .any base t v)
    (hW : DataW.Whole enc Tryz.prog Tryz.f4.params.toList Rows.globLiteralSpec.vars false W args.toList ds gs before) (hL : laidMetH Tryz.prog Rows.globLiteralRow.laid W) (hS : W.ShapedOpen Tryz.prog) (hk : Rows.uptoSmall H (ds ++ gs) = true) :
    Calls Tryz.prog 4 args W fun e W' => ∃ v, e = .returned v ∧ Rows.globLiteralSpec.post enc Tryz.prog Tryz.f4 false true false false W args v W' := by
  have hW' := hW
  obtain ⟨p, q, hA0, hV, rfl, hfz, hnd⟩ := hW
  have hA : DataW.TrodAll enc Tryz.prog W 0 (fun _ => true) true Tryz.f4.params.toList args.toList ds p := hA0
  rw [Tryz.params4] at hA hval
  obtain ⟨v0, vs0, d0, ds0, p0, q0, hargs, rfl, rfl, h0, r0⟩ := trodAll_cons hA
  obtain ⟨v1, vs1, d1, ds1, p1, q1, rfl, rfl, rfl, h1, r1⟩ := trodAll_cons r0
  obtain ⟨rfl, rfl, rfl⟩ := trodAll_nil r1
  obtain rfl : args = #[v0, v1] := by cases args; simp_all
  obtain ⟨rfl, rfl⟩ := trodVars_none hV
  obtain ⟨x0, rfl, rfl, rfl, k0⟩ := ChangeMaps.open_string Tryz.underlying9 (hval 0 9 v0 rfl rfl) h0
  have k0 : x0.data.toList.length ≤ 9223372036854775807 := by unfold maxLen at k0; simpa using k0
  obtain ⟨x1, rfl, rfl, rfl, k1⟩ := ChangeMaps.open_string Tryz.underlying9 (hval 1 9 v1 rfl rfl) h1
  have k1 : x1.data.toList.length ≤ 9223372036854775807 := by unfold maxLen at k1; simpa using k1
  clear hA0
  have hbulk := bulk_bound hk
  simp only [List.cons_append, List.nil_append, List.append_nil, Rows.uptoBulkAll] at hbulk
  obtain ⟨m, hm⟩ := laid_of hL hS
  simp [Rows.uptoBulk] at hbulk
  have z0 : x0.data.toList.length = x0.size := by rw [Array.length_toList]; rfl
  have z1 : x1.data.toList.length = x1.size := by rw [Array.length_toList]; rfl
  refine (GlobLiteral_any _ _ m W hm (by show x0.data.toList.length ≤ _; rw [z0]; omega) (by show x1.data.toList.length ≤ _; rw [z1]; omega)).mono ?_
  exact fun e W' ⟨he, hb⟩ => ⟨_, he, law_post rfl hW' rfl (by kernel_rfl) Tryz.underlying4 (by kernel_rfl) laidOut hb⟩

open Go.ChangeShapes Go.WideShapes Go.ChangeAt in
theorem GlobLiteral_met (os : Os) : laidMet Tryz.prog Rows.globLiteralUptoRow.laid ((laidWorld os).forCall (fun _ _ => 0) ⟨#[], #[.string ⟨#[]⟩, .string ⟨#[]⟩], []⟩).memory :=
  laidMet_of_run' 8 (by kernel_rfl) (by kernel_rfl)
open Go.ChangeShapes Go.WideShapes Go.ChangeAt in
theorem GlobLiteral_reads (os : Os) {H : Type} (enc : TypeId × Value → H) : ∃ places, DataW.whole enc Tryz.prog ((laidWorld os).forCall (fun _ _ => 0) ⟨#[], #[.string ⟨#[]⟩, .string ⟨#[]⟩], []⟩).memory Tryz.f4.params.toList Rows.globLiteralSpec.vars false #[.string ⟨#[]⟩, .string ⟨#[]⟩].toList 8 = some ([.lit (.string []), .lit (.string [])], [], places) :=
  ⟨[], by kernel_rfl⟩

open Go.ChangeShapes Go.WideShapes Go.ChangeAt in
set_option maxRecDepth 100000 in
theorem GlobLiteral_lifted (os : Os) (started : os.Started) (H : Type) (enc : TypeId × Value → H) (F : Stop.Interp) :
    ReturnsInHanded {} Tryz.checked os 4 .any ((Rows.OpenSpec.upto Rows.globLiteralSpec).preRow enc Tryz.prog Tryz.f4 Rows.globLiteralUptoRow.domain false Rows.globLiteralUptoRow.laid) (((Rows.OpenSpec.upto Rows.globLiteralSpec).at F).post enc Tryz.prog Tryz.f4 false true false false) := by
  obtain ⟨places, hx⟩ := GlobLiteral_reads os enc
  refine returnsInHanded_of_row (C := Tryz.checked) (s := Rows.OpenSpec.upto Rows.globLiteralSpec) own started (by kernel_rfl) Tryz.func4
    (witness_row_at (enc := enc) (C := Tryz.checked) false (laidWorld os) #[.string ⟨#[]⟩, .string ⟨#[]⟩] rfl (by kernel_rfl) (by kernel_rfl) (by kernel_rfl)
      (OpenSpec.preRow_of_cond 8 hx (by kernel_rfl) (fun k hk => by cases hk; kernel_rfl) (by kernel_rfl) (GlobLiteral_met os))) ?_
  intro W base args ds gs before hval hW _ hcond _ hL hS _
  exact GlobLiteral_contract H enc W base args ds gs before hval hW hL hS (hcond _ rfl)

theorem GlobLiteral_said : Rows.GlobLiteralUptoSaid :=
  OpenClaim.holds_of_cond 4 Tryz.f4 rfl rfl rfl rfl rfl rfl rfl ⟨rfl, rfl, rfl, rfl, rfl⟩ rfl rfl rfl rfl rfl (by kernel_rfl) Tryz.func4 (by kernel_rfl)
    (of_decide_eq_true (by kernel_rfl)) (by unfold Func.isWrapper; first | (rw [if_pos (by decide +kernel)]; kernel_rfl) | (rw [if_neg (by decide +kernel)]; exact ⟨rfl, rfl⟩))
    (fun os started H enc _ F => by rw [OpenClaim.pre_eq_preRow]; exact GlobLiteral_lifted os started H enc F)

theorem GlobLiteral_holds : Rows.GlobLiteralUptoCardSaid :=
  Claim7.holds_tied_plain_at .later [] _ _ _ _ GlobLiteral_said (fun _ h => by cases h) (by kernel_rfl) (fun _ h => by cases h) globLiteralUpto_row_tie rfl ⟨rfl, rfl⟩ (by kernel_rfl) rfl
    (card_plain (f0 := 4) (fn0 := Tryz.f4) (by kernel_rfl) Tryz.func4 (by kernel_rfl) (by kernel_rfl)) (by kernel_rfl)
end Go.Proofs.YtgppfcaghjbjmaaGreatDoor
end
