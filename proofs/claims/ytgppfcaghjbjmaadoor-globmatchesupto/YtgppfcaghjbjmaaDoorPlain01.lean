/- Plain laws of names and paths. -/
import Derived.Test.YtgppfcaghjbjmaaDoorPlainCut
import Derived.Lib.ValidLaws
import Derived.Lib.Join
namespace Go.Proofs.YtgppfcaghjbjmaaDoor.Plain

/-! ### Cutting at '/' and joining -/
def parts (s : List UInt8) : List (List UInt8) := cutAt 47 [] s
def joinS : List (List UInt8) → List UInt8
  | [] => []
  | [x] => x
  | x :: y :: r => x ++ 47 :: joinS (y :: r)
theorem joinS_cons (x : List UInt8) (r : List (List UInt8)) (h : r ≠ []) : joinS (x :: r) = x ++ 47 :: joinS r := by
  cases r with
  | nil => exact absurd rfl h
  | cons y r => rfl
theorem parts_ne (s : List UInt8) : parts s ≠ [] := cutAt_ne _ _ _
theorem parts_length (s : List UInt8) : (parts s).length = s.count 47 + 1 := cutAt_length _ _ _
theorem join_cons1 (x : UInt8) (l : List (List UInt8)) (h : l ≠ []) : joinS (cons1 x l) = x :: joinS l := by
  cases l with
  | nil => exact absurd rfl h
  | cons p r => cases r <;> rfl
theorem join_parts (s : List UInt8) : joinS (parts s) = s := by
  unfold parts
  induction s with
  | nil => rfl
  | cons x s ih =>
    rw [cutAt_cons]
    split
    · rename_i e; subst e; rw [joinS_cons _ _ (cutAt_ne _ _ _), ih]; rfl
    · rw [join_cons1 _ _ (cutAt_ne _ _ _), ih]
theorem parts_none (s : List UInt8) (h : 47 ∉ s) : parts s = [s] := cutAt_none _ _ _ h
theorem parts_first (p r : List UInt8) (h : 47 ∉ p) : parts (p ++ 47 :: r) = p :: parts r := by
  unfold parts; rw [cutAt_first _ _ _ _ h, List.append_nil]
theorem parts_join : ∀ (l : List (List UInt8)), l ≠ [] → (∀ x ∈ l, 47 ∉ x) → parts (joinS l) = l
  | [], h, _ => absurd rfl h
  | [x], _, h => parts_none x (h x (by simp))
  | x :: y :: r, _, h => by
    rw [joinS_cons _ _ (by simp), parts_first _ _ (h x (by simp)), parts_join (y :: r) (by simp) (fun z hz => h z (by simp [hz]))]
theorem mem_cons1 {x : UInt8} {l : List (List UInt8)} {z : List UInt8} (h : z ∈ cons1 x l) (hl : ∀ y ∈ l, 47 ∉ y) (hx : x ≠ 47) : 47 ∉ z := by
  cases l with
  | nil => simp [cons1] at h; subst h; simpa using fun e => hx e.symm
  | cons p r =>
    simp only [cons1, List.mem_cons] at h
    rcases h with rfl | h
    · have := hl p (by simp); simpa [this] using fun e => hx e.symm
    · exact hl z (by simp [h])
theorem parts_no (s : List UInt8) : ∀ x ∈ parts s, 47 ∉ x := by
  unfold parts
  induction s with
  | nil => intro x hx; simp [cutAt] at hx; subst hx; simp
  | cons a s ih =>
    intro x hx
    rw [cutAt_cons] at hx
    split at hx
    · simp at hx; rcases hx with rfl | hx; simp; exact ih x hx
    · exact mem_cons1 hx ih (by assumption)
/-- the last '/' -/
theorem last_cut {s : List UInt8} (h : 47 ∈ s) : ∃ p q, s = p ++ 47 :: q ∧ 47 ∉ q := by
  have := first_c (c := 47) s.reverse (by simpa using h)
  obtain ⟨a, b, hs, ha⟩ := this
  refine ⟨b.reverse, a.reverse, ?_, by simpa using ha⟩
  have := congrArg List.reverse hs
  simpa using this
theorem join_append : ∀ (l m : List (List UInt8)), l ≠ [] → m ≠ [] → joinS (l ++ m) = joinS l ++ 47 :: joinS m
  | [], _, h, _ => absurd rfl h
  | [x], m, _, hm => joinS_cons x m hm
  | x :: y :: r, m, _, hm => by
    have h := join_append (y :: r) m (by simp) hm
    show x ++ 47 :: joinS (y :: r ++ m) = (x ++ 47 :: joinS (y :: r)) ++ 47 :: joinS m
    rw [h]; simp
theorem parts_last (p q : List UInt8) (h : 47 ∉ q) : parts (p ++ 47 :: q) = parts p ++ [q] := by
  have : joinS (parts p ++ [q]) = p ++ 47 :: q := by
    rw [join_append _ _ (parts_ne p) (by simp), join_parts]; rfl
  rw [← this, parts_join]
  · simp
  · intro x hx; simp at hx; rcases hx with hx | rfl; exact parts_no p x hx; exact h
theorem join_length : ∀ (l : List (List UInt8)), (joinS l).length = (l.map List.length).sum + (l.length - 1)
  | [] => rfl
  | [x] => by simp [joinS]
  | x :: y :: r => by rw [joinS_cons _ _ (by simp)]; have := join_length (y :: r); simp at this ⊢; omega
theorem join_count : ∀ (l : List (List UInt8)), (joinS l).count 47 = (l.map (List.count 47)).sum + (l.length - 1)
  | [] => rfl
  | [x] => by simp [joinS]
  | x :: y :: r => by rw [joinS_cons _ _ (by simp)]; have := join_count (y :: r); simp at this ⊢; omega
theorem join_lib (l : List (List UInt8)) : Lib.join l [47] = joinS l := by
  unfold Lib.join
  induction l with
  | nil => rfl
  | cons x r ih =>
    cases r with
    | nil => simp [joinS, List.intercalate]
    | cons y r => rw [joinS_cons _ _ (by simp), ← ih]; simp [List.intercalate, List.intersperse]

/-! ### Names and paths -/
def nameOK (s : List UInt8) : Bool := !s.isEmpty && decide (s.length ≤ 64) && !(s == [46]) && !(s == [46, 46]) && Lib.validD s && !s.contains 47 && !s.contains 0
def pathOK (s : List UInt8) : Bool := decide (s.length ≤ 400) && decide ((parts s).length ≤ 16) && (parts s).all nameOK
theorem pathOK_len {s : List UInt8} (h : pathOK s = true) : s.length ≤ 400 := by
  unfold pathOK at h; simp at h; exact h.1.1
theorem pathOK_ne {s : List UInt8} (h : pathOK s = true) : s ≠ [] := by
  rintro rfl
  revert h; decide
theorem pathOK_mem {s n : List UInt8} (h : pathOK s = true) (hn : n ∈ parts s) : nameOK n = true := by
  unfold pathOK at h; simp at h; exact h.2 n hn
theorem pathOK_join {l : List (List UInt8)} (hl : l ≠ []) (h16 : l.length ≤ 16) (h : ∀ x ∈ l, nameOK x = true) (h400 : (joinS l).length ≤ 400) : pathOK (joinS l) = true := by
  have hno : ∀ x ∈ l, 47 ∉ x := fun x hx => by have := h x hx; unfold nameOK at this; simp at this; exact this.1.2
  unfold pathOK
  rw [parts_join l hl hno]
  simp; exact ⟨⟨h400, h16⟩, h⟩
theorem nameOK_path {s : List UInt8} (h : nameOK s = true) : pathOK s = true := by
  unfold nameOK at h; simp at h
  obtain ⟨⟨⟨⟨⟨⟨h1, h2⟩, h3⟩, h4⟩, h5⟩, h6⟩, h7⟩ := h
  unfold pathOK
  rw [parts_none s h6]
  simp [nameOK, h1, h2, h3, h4, h5, h6, h7]; omega

/-! ### What is above and what is last -/
def parentM (s : List UInt8) : List UInt8 := if pathOK s then joinS (parts s).dropLast else []
def baseM (s : List UInt8) : List UInt8 := if pathOK s then (parts s).getLast (parts_ne s) else []
theorem parent_none {s : List UInt8} (h : 47 ∉ s) : parentM s = [] := by
  unfold parentM; split; rw [parts_none s h]; rfl; rfl
theorem parent_cut (p q : List UInt8) (h : 47 ∉ q) (hp : pathOK (p ++ 47 :: q) = true) : parentM (p ++ 47 :: q) = p := by
  unfold parentM; rw [if_pos hp, parts_last p q h, List.dropLast_concat, join_parts]
theorem base_cut (p q : List UInt8) (h : 47 ∉ q) (hp : pathOK (p ++ 47 :: q) = true) : baseM (p ++ 47 :: q) = q := by
  unfold baseM; rw [if_pos hp]
  simp only [parts_last p q h]
  simp
theorem base_none {s : List UInt8} (h : 47 ∉ s) (hp : pathOK s = true) : baseM s = s := by
  unfold baseM; rw [if_pos hp]; simp only [parts_none s h]; rfl
theorem path_above (p q : List UInt8) (h : 47 ∉ q) (hp : pathOK (p ++ 47 :: q) = true) : pathOK p = true := by
  have h0 := hp
  unfold pathOK at hp
  rw [parts_last p q h] at hp
  simp at hp
  unfold pathOK
  simp
  exact ⟨⟨by omega, by omega⟩, fun x hx => hp.2.1 x hx⟩

/-! ### Within -/
def withinM (p q : List UInt8) : Bool := pathOK p && (q.isEmpty || pathOK q && (p == q || (q ++ [47]).isPrefixOf p))
theorem parts_join_app (t : List UInt8) : ∀ (l : List (List UInt8)), l ≠ [] → (∀ x ∈ l, 47 ∉ x) → parts (joinS l ++ 47 :: t) = l ++ parts t
  | [], h, _ => absurd rfl h
  | [x], _, hno => parts_first x t (hno x (by simp))
  | x :: y :: r, _, hno => by
    have h := parts_join_app t (y :: r) (by simp) (fun z hz => hno z (by simp [hz]))
    show parts ((x ++ 47 :: joinS (y :: r)) ++ 47 :: t) = _
    rw [List.append_assoc, List.cons_append, parts_first _ _ (hno x (by simp)), h]; rfl
theorem prefix_parts (q p : List UInt8) : (p = q ∨ (q ++ [47]) <+: p) ↔ parts q <+: parts p := by
  constructor
  · rintro (rfl | ⟨t, rfl⟩)
    · exact List.prefix_refl _
    · have h := parts_join_app t (parts q) (parts_ne q) (parts_no q)
      rw [join_parts] at h
      rw [List.append_assoc, List.singleton_append, h]
      exact List.prefix_append _ _
  · rintro ⟨r, hr⟩
    have hp := join_parts p
    rw [← hr] at hp
    cases r with
    | nil => left; rw [List.append_nil, join_parts] at hp; exact hp.symm
    | cons y r =>
      right
      rw [← hp, join_append _ _ (parts_ne q) (by simp), join_parts]
      exact ⟨joinS (y :: r), by simp⟩
theorem withinM_parts (p q : List UInt8) : withinM p q = (pathOK p && (q.isEmpty || pathOK q && (parts q).isPrefixOf (parts p))) := by
  unfold withinM
  congr 2
  congr 1
  rw [Bool.eq_iff_iff]
  simp only [Bool.or_eq_true, beq_iff_eq, List.isPrefixOf_iff_prefix]
  exact prefix_parts q p

/-! ### The order -/
def orderP : List (List UInt8) → List (List UInt8) → Int
  | [], [] => 0
  | [], _ :: _ => -1
  | _ :: _, [] => 1
  | x :: xs, y :: ys => if x < y then -1 else if y < x then 1 else orderP xs ys
def orderM (a b : List UInt8) : Int := orderP (parts a) (parts b)
theorem lt_irrefl' (x : List UInt8) : ¬ x < x := List.lt_irrefl x
theorem eq_of_not_lt {x y : List UInt8} (h1 : ¬ x < y) (h2 : ¬ y < x) : x = y := List.le_antisymm (List.not_lt.1 h2) (List.not_lt.1 h1)
theorem orderP_self : ∀ l, orderP l l = 0
  | [] => rfl
  | x :: l => by unfold orderP; rw [if_neg (lt_irrefl' x), if_neg (lt_irrefl' x), orderP_self l]
theorem orderP_cases : ∀ a b, orderP a b = -1 ∨ orderP a b = 0 ∨ orderP a b = 1
  | [], [] => by simp [orderP]
  | [], _ :: _ => by simp [orderP]
  | _ :: _, [] => by simp [orderP]
  | x :: xs, y :: ys => by
    unfold orderP
    split
    · simp
    · split
      · simp
      · exact orderP_cases xs ys
theorem orderP_zero : ∀ a b, orderP a b = 0 ↔ a = b
  | [], [] => by simp [orderP]
  | [], _ :: _ => by simp [orderP]
  | _ :: _, [] => by simp [orderP]
  | x :: xs, y :: ys => by
    unfold orderP
    split
    · rename_i h; simp; rintro rfl; exact absurd h (lt_irrefl' _)
    · split
      · rename_i h; simp; rintro rfl; exact absurd h (lt_irrefl' _)
      · rw [orderP_zero xs ys, eq_of_not_lt (x := x) (y := y) (by assumption) (by assumption)]; simp
theorem orderP_neg : ∀ a b, orderP b a = - orderP a b
  | [], [] => by simp [orderP]
  | [], _ :: _ => by simp [orderP]
  | _ :: _, [] => by simp [orderP]
  | x :: xs, y :: ys => by
    unfold orderP
    by_cases h1 : x < y
    · rw [if_pos h1, if_neg (List.lt_asymm h1), if_pos h1]; rfl
    · by_cases h2 : y < x
      · simp [h1, h2]
      · simp only [h1, h2, if_false]; exact orderP_neg xs ys
theorem orderP_trans : ∀ a b c, orderP a b ≤ 0 → orderP b c ≤ 0 → orderP a c ≤ 0 ∧ (orderP a b < 0 → orderP a c < 0)
  | [], [], [], _, _ => by simp [orderP]
  | [], [], _ :: _, _, _ => by simp [orderP]
  | [], _ :: _, [], _, h => by simp [orderP] at h
  | [], _ :: _, _ :: _, _, _ => by simp [orderP]
  | _ :: _, [], _, h, _ => by simp [orderP] at h
  | _ :: _, _ :: _, [], _, h => by simp [orderP] at h
  | x :: xs, y :: ys, z :: zs, h1, h2 => by
    unfold orderP at h1 h2 ⊢
    by_cases a1 : x < y
    · by_cases b1 : y < z
      · have := List.lt_trans a1 b1; simp [this]
      · by_cases b2 : z < y
        · simp [b1, b2] at h2
        · have := eq_of_not_lt b1 b2; subst this; simp [a1]
    · by_cases a2 : y < x
      · simp [a1, a2] at h1
      · have := eq_of_not_lt a1 a2; subst this
        by_cases b1 : x < z
        · simp [b1]
        · by_cases b2 : z < x
          · simp [b1, b2] at h2
          · have := eq_of_not_lt b1 b2; subst this
            simp only [lt_irrefl', if_false] at h1 h2 ⊢
            exact orderP_trans xs ys zs h1 h2
/-- between a and what is within it stands nothing that isn't -/
theorem orderP_between : ∀ a b c, a <+: c → orderP a b < 0 → orderP b c < 0 → a <+: b
  | [], _, _, _, _, _ => List.nil_prefix
  | x :: xs, [], _, _, h, _ => by simp [orderP] at h
  | x :: xs, y :: ys, [], h, _, _ => by simp at h
  | x :: xs, y :: ys, z :: zs, hp, h1, h2 => by
    rw [List.cons_prefix_cons] at hp
    obtain ⟨rfl, hp⟩ := hp
    unfold orderP at h1 h2
    by_cases a1 : x < y
    · simp [a1, List.lt_asymm a1] at h2
    · by_cases a2 : y < x
      · simp [a1, a2] at h1
      · have := eq_of_not_lt a1 a2; subst this
        simp only [lt_irrefl', if_false] at h1 h2
        exact List.cons_prefix_cons.2 ⟨rfl, orderP_between xs ys zs hp h1 h2⟩

/-! ### Letters made small -/
def lowB (b : UInt8) : UInt8 := if 65 ≤ b ∧ b ≤ 90 then b + 32 else b
def foldM (s : List UInt8) : List UInt8 := s.map lowB
end Go.Proofs.YtgppfcaghjbjmaaDoor.Plain
