/- Texts joined: PlainCut, Plain01, PlainTree, Tree1, Valid, PlainRune. -/
import Derived.Lib.Split
import Derived.Lib.ValidLaws
import Derived.Lib.Join
import Derived.Test.YtjajoiahgfafgaaGreatDoorBCodeBaseC1
import Derived.Test.YtjajoiahgfafgaaGreatDoorShelf
import Derived.Shelf.Unicode.ValidAny
import Derived.Lib.LaidU8T
set_option linter.unusedSimpArgs false
set_option linter.unusedVariables false

/- Plain laws of texts cut at a byte. -/
section
namespace Go.Proofs.YtjajoiahgfafgaaGreatDoor.Plain

def cons1 (x : UInt8) : List (List UInt8) → List (List UInt8)
  | [] => [[x]]
  | p :: r => (x :: p) :: r
/-- a text cut behind each c; of c there stays k -/
def cutAt (c : UInt8) (k : List UInt8) : List UInt8 → List (List UInt8)
  | [] => [[]]
  | x :: s => if x = c then k :: cutAt c k s else cons1 x (cutAt c k s)
theorem cutAt_cons (c : UInt8) (k : List UInt8) (x : UInt8) (s : List UInt8) : cutAt c k (x :: s) = if x = c then k :: cutAt c k s else cons1 x (cutAt c k s) := rfl
theorem cutAt_ne (c : UInt8) (k : List UInt8) (s : List UInt8) : cutAt c k s ≠ [] := by
  cases s with
  | nil => simp [cutAt]
  | cons x s =>
    unfold cutAt
    split
    · simp
    · cases cutAt c k s <;> simp [cons1]
theorem cutAt_none (c : UInt8) (k : List UInt8) (s : List UInt8) (h : c ∉ s) : cutAt c k s = [s] := by
  induction s with
  | nil => rfl
  | cons x s ih =>
    simp only [List.mem_cons, not_or] at h
    unfold cutAt
    rw [if_neg (fun e => h.1 e.symm), ih h.2]; rfl
theorem cutAt_first (c : UInt8) (k : List UInt8) (p r : List UInt8) (h : c ∉ p) : cutAt c k (p ++ c :: r) = (p ++ k) :: cutAt c k r := by
  induction p with
  | nil => simp [cutAt]
  | cons x p ih =>
    simp only [List.mem_cons, not_or] at h
    rw [List.cons_append, cutAt_cons, if_neg (fun e => h.1 e.symm), ih h.2]; rfl
theorem cutAt_length (c : UInt8) (k : List UInt8) (s : List UInt8) : (cutAt c k s).length = s.count c + 1 := by
  induction s with
  | nil => rfl
  | cons x s ih =>
    unfold cutAt
    by_cases e : x = c
    · rw [if_pos e]; subst e; simp [ih]
    · rw [if_neg e]
      have := cutAt_ne c k s
      cases hc : cutAt c k s with
      | nil => exact absurd hc this
      | cons p r => rw [hc] at ih; simp only [cons1, List.length_cons] at ih ⊢; rw [List.count_cons, if_neg (by simpa using e)]; omega
/-- one byte more -/
theorem cutAt_snoc (c : UInt8) (k : List UInt8) (x : UInt8) : ∀ (s : List UInt8) (d : List (List UInt8)) (q : List UInt8), cutAt c k s = d ++ [q] →
    cutAt c k (s ++ [x]) = if x = c then d ++ [q ++ k, []] else d ++ [q ++ [x]]
  | [], d, q, h => by
    have hd : d = [] ∧ q = [] := by
      cases d with
      | nil => simp [cutAt] at h; exact ⟨rfl, h⟩
      | cons a d => simp [cutAt] at h
    obtain ⟨rfl, rfl⟩ := hd
    by_cases e : x = c <;> simp [cutAt, e, cons1]
  | y :: s, d, q, h => by
    rw [List.cons_append]
    rw [cutAt_cons] at h ⊢
    by_cases e : y = c
    · rw [if_pos e] at h ⊢
      cases d with
      | nil => simp at h; exact absurd h.2 (cutAt_ne _ _ _)
      | cons a d =>
        simp only [List.cons_append, List.cons.injEq] at h
        rw [cutAt_snoc c k x s d q h.2, h.1]
        split <;> rfl
    · rw [if_neg e] at h ⊢
      cases hc : cutAt c k s with
      | nil => exact absurd hc (cutAt_ne _ _ _)
      | cons p r =>
        rw [hc] at h
        simp only [cons1] at h
        cases d with
        | nil =>
          simp only [List.nil_append, List.cons.injEq] at h
          obtain ⟨rfl, rfl⟩ := h
          rw [cutAt_snoc c k x s [] p (by rw [hc]; rfl)]
          split <;> simp [cons1]
        | cons a d =>
          simp only [List.cons_append, List.cons.injEq] at h
          obtain ⟨rfl, rfl⟩ := h
          rw [cutAt_snoc c k x s (p :: d) q (by rw [hc]; rfl)]
          split <;> simp [cons1]
theorem cutAt_last (c : UInt8) (k : List UInt8) (s : List UInt8) : ∃ d q, cutAt c k s = d ++ [q] :=
  ⟨(cutAt c k s).dropLast, (cutAt c k s).getLast (cutAt_ne c k s), (List.dropLast_concat_getLast (cutAt_ne c k s)).symm⟩

theorem index_none {c : UInt8} {l : List UInt8} (h : c ∉ l) : Lib.index l [c] = -1 := by
  induction l with
  | nil => rfl
  | cons b l ih =>
    simp only [List.mem_cons, not_or] at h
    unfold Lib.index
    rw [if_neg (by simp [List.isPrefixOf, h.1]), ih h.2]; rfl
theorem index_first {c : UInt8} (p r : List UInt8) (h : c ∉ p) : Lib.index (p ++ c :: r) [c] = p.length := by
  induction p with
  | nil => simp [Lib.index, List.isPrefixOf]
  | cons b p ih =>
    simp only [List.mem_cons, not_or] at h
    rw [List.cons_append]
    unfold Lib.index
    rw [if_neg (by simp [List.isPrefixOf, h.1]), ih h.2, if_neg (by simp)]
    simp
theorem first_c {c : UInt8} : ∀ (l : List UInt8), c ∈ l → ∃ p r, l = p ++ c :: r ∧ c ∉ p
  | x :: l, h => by
    by_cases e : c = x
    · subst e; exact ⟨[], l, rfl, by simp⟩
    · obtain ⟨p, r, h1, h2⟩ := first_c l (by simpa [e] using h)
      exact ⟨x :: p, r, by rw [h1]; rfl, by simp [e, h2]⟩

theorem ext_list (l : List UInt8) (a b : Nat) : (ByteArray.mk l.toArray).extract a b = ⟨((l.drop a).take (b - a)).toArray⟩ := by
  apply ByteArray.ext; simp [List.extract]

/-- what the library's cutting gives -/
theorem splitB_cut (c : UInt8) (sv : Nat) (hsv : sv ≤ 1) : ∀ (n : Nat) (s : List UInt8), s.count c ≤ n →
    (Lib.splitB ⟨#[c]⟩ sv n ⟨s.toArray⟩).map (·.data.toList) = cutAt c (if sv = 1 then [c] else []) s := by
  intro n
  induction n with
  | zero =>
    intro s h
    rw [cutAt_none _ _ _ (List.count_eq_zero.1 (by omega))]
    simp [Lib.splitB]
  | succ n ih =>
    intro s h
    unfold Lib.splitB
    have hi : Lib.indexB ⟨s.toArray⟩ ⟨#[c]⟩ = Lib.index s [c] := rfl
    rw [hi]
    by_cases hc : c ∈ s
    · obtain ⟨p, r, rfl, hp⟩ := first_c s hc
      rw [index_first p r hp, if_neg (by simp), cutAt_first _ _ _ _ hp]
      have hcnt : r.count c ≤ n := by
        rw [List.count_append, List.count_cons_self] at h; omega
      have hex : ByteArray.extract ⟨(p ++ c :: r).toArray⟩ (((p.length : Int)).toNat + ByteArray.size ⟨#[c]⟩) (ByteArray.size ⟨(p ++ c :: r).toArray⟩) = ⟨r.toArray⟩ := by
        rw [ext_list, show ((p.length : Int)).toNat = p.length by omega, show ByteArray.size ⟨#[c]⟩ = 1 from rfl, show ByteArray.size ⟨(p ++ c :: r).toArray⟩ = (p ++ c :: r).length by simp [ByteArray.size]]
        rw [show (p ++ c :: r).drop (p.length + 1) = r by rw [← List.drop_drop, List.drop_left' rfl]; rfl, List.take_of_length_le (by simp; omega)]
      have hex0 : (ByteArray.extract ⟨(p ++ c :: r).toArray⟩ 0 (((p.length : Int)).toNat + sv)).data.toList = p ++ (if sv = 1 then [c] else []) := by
        rw [ext_list, show ((p.length : Int)).toNat = p.length by omega]
        simp only [List.drop_zero, Nat.sub_zero]
        match sv, hsv with
        | 0, _ => simp
        | 1, _ => simp [List.take_append, List.take_of_length_le]
      rw [List.map_cons, hex, ih r hcnt, hex0]
    · rw [index_none hc, if_pos (by decide), cutAt_none _ _ _ hc]
      simp
/-- without an empty last one -/
def trimLast : List (List UInt8) → List (List UInt8)
  | [] => []
  | [q] => if q = [] then [] else [q]
  | x :: y :: r => x :: trimLast (y :: r)
theorem trimLast_snoc (d : List (List UInt8)) (q : List UInt8) : trimLast (d ++ [q]) = d ++ if q = [] then [] else [q] := by
  induction d with
  | nil => rfl
  | cons x d ih =>
    cases d with
    | nil => rfl
    | cons y d => rw [List.cons_append, List.cons_append, trimLast]; rw [List.cons_append] at ih; rw [ih]; rfl
/-- a text's lines, with their ends -/
def linesL (s : List UInt8) : List (List UInt8) := trimLast (cutAt 10 [10] s)
theorem linesL_length (s : List UInt8) : (linesL s).length ≤ s.length + 1 := by
  obtain ⟨d, q, h⟩ := cutAt_last 10 [10] s
  have h2 := cutAt_length 10 [10] s
  have h3 : s.count 10 ≤ s.length := List.count_le_length
  unfold linesL
  rw [h, List.length_append] at h2
  rw [h, trimLast_snoc, List.length_append]
  split <;> simp at h2 ⊢ <;> omega
end Go.Proofs.YtjajoiahgfafgaaGreatDoor.Plain
end

/- Plain laws of names and paths. -/
section
namespace Go.Proofs.YtjajoiahgfafgaaGreatDoor.Plain

/-! ### Cutting at '/' and joining -/
def parts (s : List UInt8) : List (List UInt8) := cutAt 47 [] s
def joinS : List (List UInt8) → List UInt8
  | [] => []
  | [x] => x
  | x :: y :: r => x ++ 47 :: joinS (y :: r)
theorem joinS_cons (x : List UInt8) (r : List (List UInt8)) (h : r ≠ []) : joinS (x :: r) = x ++ 47 :: joinS r := by
  cases r with
  | nil => exact absurd rfl h
  | cons y r => rfl
theorem parts_ne (s : List UInt8) : parts s ≠ [] := cutAt_ne _ _ _
theorem parts_length (s : List UInt8) : (parts s).length = s.count 47 + 1 := cutAt_length _ _ _
theorem join_cons1 (x : UInt8) (l : List (List UInt8)) (h : l ≠ []) : joinS (cons1 x l) = x :: joinS l := by
  cases l with
  | nil => exact absurd rfl h
  | cons p r => cases r <;> rfl
theorem join_parts (s : List UInt8) : joinS (parts s) = s := by
  unfold parts
  induction s with
  | nil => rfl
  | cons x s ih =>
    rw [cutAt_cons]
    split
    · rename_i e; subst e; rw [joinS_cons _ _ (cutAt_ne _ _ _), ih]; rfl
    · rw [join_cons1 _ _ (cutAt_ne _ _ _), ih]
theorem parts_none (s : List UInt8) (h : 47 ∉ s) : parts s = [s] := cutAt_none _ _ _ h
theorem parts_first (p r : List UInt8) (h : 47 ∉ p) : parts (p ++ 47 :: r) = p :: parts r := by
  unfold parts; rw [cutAt_first _ _ _ _ h, List.append_nil]
theorem parts_join : ∀ (l : List (List UInt8)), l ≠ [] → (∀ x ∈ l, 47 ∉ x) → parts (joinS l) = l
  | [], h, _ => absurd rfl h
  | [x], _, h => parts_none x (h x (by simp))
  | x :: y :: r, _, h => by
    rw [joinS_cons _ _ (by simp), parts_first _ _ (h x (by simp)), parts_join (y :: r) (by simp) (fun z hz => h z (by simp [hz]))]
theorem mem_cons1 {x : UInt8} {l : List (List UInt8)} {z : List UInt8} (h : z ∈ cons1 x l) (hl : ∀ y ∈ l, 47 ∉ y) (hx : x ≠ 47) : 47 ∉ z := by
  cases l with
  | nil => simp [cons1] at h; subst h; simpa using fun e => hx e.symm
  | cons p r =>
    simp only [cons1, List.mem_cons] at h
    rcases h with rfl | h
    · have := hl p (by simp); simpa [this] using fun e => hx e.symm
    · exact hl z (by simp [h])
theorem parts_no (s : List UInt8) : ∀ x ∈ parts s, 47 ∉ x := by
  unfold parts
  induction s with
  | nil => intro x hx; simp [cutAt] at hx; subst hx; simp
  | cons a s ih =>
    intro x hx
    rw [cutAt_cons] at hx
    split at hx
    · simp at hx; rcases hx with rfl | hx; simp; exact ih x hx
    · exact mem_cons1 hx ih (by assumption)
/-- the last '/' -/
theorem last_cut {s : List UInt8} (h : 47 ∈ s) : ∃ p q, s = p ++ 47 :: q ∧ 47 ∉ q := by
  have := first_c (c := 47) s.reverse (by simpa using h)
  obtain ⟨a, b, hs, ha⟩ := this
  refine ⟨b.reverse, a.reverse, ?_, by simpa using ha⟩
  have := congrArg List.reverse hs
  simpa using this
theorem join_append : ∀ (l m : List (List UInt8)), l ≠ [] → m ≠ [] → joinS (l ++ m) = joinS l ++ 47 :: joinS m
  | [], _, h, _ => absurd rfl h
  | [x], m, _, hm => joinS_cons x m hm
  | x :: y :: r, m, _, hm => by
    have h := join_append (y :: r) m (by simp) hm
    show x ++ 47 :: joinS (y :: r ++ m) = (x ++ 47 :: joinS (y :: r)) ++ 47 :: joinS m
    rw [h]; simp
theorem parts_last (p q : List UInt8) (h : 47 ∉ q) : parts (p ++ 47 :: q) = parts p ++ [q] := by
  have : joinS (parts p ++ [q]) = p ++ 47 :: q := by
    rw [join_append _ _ (parts_ne p) (by simp), join_parts]; rfl
  rw [← this, parts_join]
  · simp
  · intro x hx; simp at hx; rcases hx with hx | rfl; exact parts_no p x hx; exact h
theorem join_length : ∀ (l : List (List UInt8)), (joinS l).length = (l.map List.length).sum + (l.length - 1)
  | [] => rfl
  | [x] => by simp [joinS]
  | x :: y :: r => by rw [joinS_cons _ _ (by simp)]; have := join_length (y :: r); simp at this ⊢; omega
theorem join_count : ∀ (l : List (List UInt8)), (joinS l).count 47 = (l.map (List.count 47)).sum + (l.length - 1)
  | [] => rfl
  | [x] => by simp [joinS]
  | x :: y :: r => by rw [joinS_cons _ _ (by simp)]; have := join_count (y :: r); simp at this ⊢; omega
theorem join_lib (l : List (List UInt8)) : Lib.join l [47] = joinS l := by
  unfold Lib.join
  induction l with
  | nil => rfl
  | cons x r ih =>
    cases r with
    | nil => simp [joinS, List.intercalate]
    | cons y r => rw [joinS_cons _ _ (by simp), ← ih]; simp [List.intercalate, List.intersperse]

/-! ### Names and paths -/
def nameOK (s : List UInt8) : Bool := !s.isEmpty && decide (s.length ≤ 64) && !(s == [46]) && !(s == [46, 46]) && Lib.validD s && !s.contains 47 && !s.contains 0
def pathOK (s : List UInt8) : Bool := decide (s.length ≤ 400) && decide ((parts s).length ≤ 16) && (parts s).all nameOK
theorem pathOK_len {s : List UInt8} (h : pathOK s = true) : s.length ≤ 400 := by
  unfold pathOK at h; simp at h; exact h.1.1
theorem pathOK_ne {s : List UInt8} (h : pathOK s = true) : s ≠ [] := by
  rintro rfl
  revert h; decide
theorem pathOK_mem {s n : List UInt8} (h : pathOK s = true) (hn : n ∈ parts s) : nameOK n = true := by
  unfold pathOK at h; simp at h; exact h.2 n hn
theorem pathOK_join {l : List (List UInt8)} (hl : l ≠ []) (h16 : l.length ≤ 16) (h : ∀ x ∈ l, nameOK x = true) (h400 : (joinS l).length ≤ 400) : pathOK (joinS l) = true := by
  have hno : ∀ x ∈ l, 47 ∉ x := fun x hx => by have := h x hx; unfold nameOK at this; simp at this; exact this.1.2
  unfold pathOK
  rw [parts_join l hl hno]
  simp; exact ⟨⟨h400, h16⟩, h⟩
theorem nameOK_path {s : List UInt8} (h : nameOK s = true) : pathOK s = true := by
  unfold nameOK at h; simp at h
  obtain ⟨⟨⟨⟨⟨⟨h1, h2⟩, h3⟩, h4⟩, h5⟩, h6⟩, h7⟩ := h
  unfold pathOK
  rw [parts_none s h6]
  simp [nameOK, h1, h2, h3, h4, h5, h6, h7]; omega

/-! ### What is above and what is last -/
def parentM (s : List UInt8) : List UInt8 := if pathOK s then joinS (parts s).dropLast else []
def baseM (s : List UInt8) : List UInt8 := if pathOK s then (parts s).getLast (parts_ne s) else []
theorem parent_none {s : List UInt8} (h : 47 ∉ s) : parentM s = [] := by
  unfold parentM; split; rw [parts_none s h]; rfl; rfl
theorem parent_cut (p q : List UInt8) (h : 47 ∉ q) (hp : pathOK (p ++ 47 :: q) = true) : parentM (p ++ 47 :: q) = p := by
  unfold parentM; rw [if_pos hp, parts_last p q h, List.dropLast_concat, join_parts]
theorem base_cut (p q : List UInt8) (h : 47 ∉ q) (hp : pathOK (p ++ 47 :: q) = true) : baseM (p ++ 47 :: q) = q := by
  unfold baseM; rw [if_pos hp]
  simp only [parts_last p q h]
  simp
theorem base_none {s : List UInt8} (h : 47 ∉ s) (hp : pathOK s = true) : baseM s = s := by
  unfold baseM; rw [if_pos hp]; simp only [parts_none s h]; rfl
theorem path_above (p q : List UInt8) (h : 47 ∉ q) (hp : pathOK (p ++ 47 :: q) = true) : pathOK p = true := by
  have h0 := hp
  unfold pathOK at hp
  rw [parts_last p q h] at hp
  simp at hp
  unfold pathOK
  simp
  exact ⟨⟨by omega, by omega⟩, fun x hx => hp.2.1 x hx⟩

/-! ### Within -/
def withinM (p q : List UInt8) : Bool := pathOK p && (q.isEmpty || pathOK q && (p == q || (q ++ [47]).isPrefixOf p))
theorem parts_join_app (t : List UInt8) : ∀ (l : List (List UInt8)), l ≠ [] → (∀ x ∈ l, 47 ∉ x) → parts (joinS l ++ 47 :: t) = l ++ parts t
  | [], h, _ => absurd rfl h
  | [x], _, hno => parts_first x t (hno x (by simp))
  | x :: y :: r, _, hno => by
    have h := parts_join_app t (y :: r) (by simp) (fun z hz => hno z (by simp [hz]))
    show parts ((x ++ 47 :: joinS (y :: r)) ++ 47 :: t) = _
    rw [List.append_assoc, List.cons_append, parts_first _ _ (hno x (by simp)), h]; rfl
theorem prefix_parts (q p : List UInt8) : (p = q ∨ (q ++ [47]) <+: p) ↔ parts q <+: parts p := by
  constructor
  · rintro (rfl | ⟨t, rfl⟩)
    · exact List.prefix_refl _
    · have h := parts_join_app t (parts q) (parts_ne q) (parts_no q)
      rw [join_parts] at h
      rw [List.append_assoc, List.singleton_append, h]
      exact List.prefix_append _ _
  · rintro ⟨r, hr⟩
    have hp := join_parts p
    rw [← hr] at hp
    cases r with
    | nil => left; rw [List.append_nil, join_parts] at hp; exact hp.symm
    | cons y r =>
      right
      rw [← hp, join_append _ _ (parts_ne q) (by simp), join_parts]
      exact ⟨joinS (y :: r), by simp⟩
theorem withinM_parts (p q : List UInt8) : withinM p q = (pathOK p && (q.isEmpty || pathOK q && (parts q).isPrefixOf (parts p))) := by
  unfold withinM
  congr 2
  congr 1
  rw [Bool.eq_iff_iff]
  simp only [Bool.or_eq_true, beq_iff_eq, List.isPrefixOf_iff_prefix]
  exact prefix_parts q p

/-! ### The order -/
def orderP : List (List UInt8) → List (List UInt8) → Int
  | [], [] => 0
  | [], _ :: _ => -1
  | _ :: _, [] => 1
  | x :: xs, y :: ys => if x < y then -1 else if y < x then 1 else orderP xs ys
def orderM (a b : List UInt8) : Int := orderP (parts a) (parts b)
theorem lt_irrefl' (x : List UInt8) : ¬ x < x := List.lt_irrefl x
theorem eq_of_not_lt {x y : List UInt8} (h1 : ¬ x < y) (h2 : ¬ y < x) : x = y := List.le_antisymm (List.not_lt.1 h2) (List.not_lt.1 h1)
theorem orderP_self : ∀ l, orderP l l = 0
  | [] => rfl
  | x :: l => by unfold orderP; rw [if_neg (lt_irrefl' x), if_neg (lt_irrefl' x), orderP_self l]
theorem orderP_cases : ∀ a b, orderP a b = -1 ∨ orderP a b = 0 ∨ orderP a b = 1
  | [], [] => by simp [orderP]
  | [], _ :: _ => by simp [orderP]
  | _ :: _, [] => by simp [orderP]
  | x :: xs, y :: ys => by
    unfold orderP
    split
    · simp
    · split
      · simp
      · exact orderP_cases xs ys
theorem orderP_zero : ∀ a b, orderP a b = 0 ↔ a = b
  | [], [] => by simp [orderP]
  | [], _ :: _ => by simp [orderP]
  | _ :: _, [] => by simp [orderP]
  | x :: xs, y :: ys => by
    unfold orderP
    split
    · rename_i h; simp; rintro rfl; exact absurd h (lt_irrefl' _)
    · split
      · rename_i h; simp; rintro rfl; exact absurd h (lt_irrefl' _)
      · rw [orderP_zero xs ys, eq_of_not_lt (x := x) (y := y) (by assumption) (by assumption)]; simp
theorem orderP_neg : ∀ a b, orderP b a = - orderP a b
  | [], [] => by simp [orderP]
  | [], _ :: _ => by simp [orderP]
  | _ :: _, [] => by simp [orderP]
  | x :: xs, y :: ys => by
    unfold orderP
    by_cases h1 : x < y
    · rw [if_pos h1, if_neg (List.lt_asymm h1), if_pos h1]; rfl
    · by_cases h2 : y < x
      · simp [h1, h2]
      · simp only [h1, h2, if_false]; exact orderP_neg xs ys
theorem orderP_trans : ∀ a b c, orderP a b ≤ 0 → orderP b c ≤ 0 → orderP a c ≤ 0 ∧ (orderP a b < 0 → orderP a c < 0)
  | [], [], [], _, _ => by simp [orderP]
  | [], [], _ :: _, _, _ => by simp [orderP]
  | [], _ :: _, [], _, h => by simp [orderP] at h
  | [], _ :: _, _ :: _, _, _ => by simp [orderP]
  | _ :: _, [], _, h, _ => by simp [orderP] at h
  | _ :: _, _ :: _, [], _, h => by simp [orderP] at h
  | x :: xs, y :: ys, z :: zs, h1, h2 => by
    unfold orderP at h1 h2 ⊢
    by_cases a1 : x < y
    · by_cases b1 : y < z
      · have := List.lt_trans a1 b1; simp [this]
      · by_cases b2 : z < y
        · simp [b1, b2] at h2
        · have := eq_of_not_lt b1 b2; subst this; simp [a1]
    · by_cases a2 : y < x
      · simp [a1, a2] at h1
      · have := eq_of_not_lt a1 a2; subst this
        by_cases b1 : x < z
        · simp [b1]
        · by_cases b2 : z < x
          · simp [b1, b2] at h2
          · have := eq_of_not_lt b1 b2; subst this
            simp only [lt_irrefl', if_false] at h1 h2 ⊢
            exact orderP_trans xs ys zs h1 h2
/-- between a and what is within it stands nothing that isn't -/
theorem orderP_between : ∀ a b c, a <+: c → orderP a b < 0 → orderP b c < 0 → a <+: b
  | [], _, _, _, _, _ => List.nil_prefix
  | x :: xs, [], _, _, h, _ => by simp [orderP] at h
  | x :: xs, y :: ys, [], h, _, _ => by simp at h
  | x :: xs, y :: ys, z :: zs, hp, h1, h2 => by
    rw [List.cons_prefix_cons] at hp
    obtain ⟨rfl, hp⟩ := hp
    unfold orderP at h1 h2
    by_cases a1 : x < y
    · simp [a1, List.lt_asymm a1] at h2
    · by_cases a2 : y < x
      · simp [a1, a2] at h1
      · have := eq_of_not_lt a1 a2; subst this
        simp only [lt_irrefl', if_false] at h1 h2
        exact List.cons_prefix_cons.2 ⟨rfl, orderP_between xs ys zs hp h1 h2⟩

/-! ### Letters made small -/
def lowB (b : UInt8) : UInt8 := if 65 ≤ b ∧ b ≤ 90 then b + 32 else b
def foldM (s : List UInt8) : List UInt8 := s.map lowB
end Go.Proofs.YtjajoiahgfafgaaGreatDoor.Plain
end

/- tree: what a tree is, as plain functions of lists. -/
section
set_option linter.unusedVariables false
namespace Go.Proofs.YtjajoiahgfafgaaGreatDoor
namespace Plain

structure Nd where
  path : List UInt8
  kind : Int
  data : List UInt8
  mode : Int
deriving DecidableEq
instance : Inhabited Nd := ⟨⟨[], 0, [], 0⟩⟩

def rightN (n : Nd) : Bool :=
  if n.kind = 1 then decide (n.data.length ≤ 65536) && decide (0 ≤ n.mode) && decide (n.mode ≤ 511)
  else if n.kind = 2 then n.data.isEmpty && (n.mode == 0)
  else if n.kind = 3 then !n.data.isEmpty && decide (n.data.length ≤ 400) && !n.data.contains 0 && (n.mode == 0)
  else false
def findN (t : List Nd) (s : List UInt8) : Option Nd := t.find? (fun n => n.path == s)
def dirN (t : List Nd) (s : List UInt8) : Bool := s.isEmpty || (match findN t s with | some n => n.kind == 2 | none => false)
def beforeN (t : List Nd) (i : Nat) : Bool := match i with
  | 0 => true
  | k + 1 => decide (orderM (t.getD k default).path (t.getD (k + 1) default).path < 0)
/-- the document's test of a node; 'all' are the nodes among which its directory is looked for -/
def nodeOK (all t : List Nd) (i : Nat) : Bool := pathOK (t.getD i default).path && rightN (t.getD i default) && beforeN t i && dirN all (parentM (t.getD i default).path)
def treeOK (t : List Nd) : Bool := decide (t.length ≤ 1000) && (List.range t.length).all (fun i => nodeOK t t i)

theorem parent_before {s : List UInt8} (h : pathOK s = true) (hne : parentM s ≠ []) : orderM (parentM s) s < 0 := by
  have hp : parentM s = joinS (parts s).dropLast := by unfold parentM; rw [if_pos h]
  have hl : (parts s).dropLast ≠ [] := by intro e; rw [hp, e] at hne; exact hne rfl
  have hpp : parts (parentM s) = (parts s).dropLast := by
    rw [hp]
    exact parts_join _ hl (fun x hx => parts_no s x (List.dropLast_subset _ hx))
  unfold orderM
  rw [hpp]
  have key : ∀ l : List (List UInt8), l ≠ [] → orderP l.dropLast l < 0 := by
    intro l
    induction l with
    | nil => intro h; exact absurd rfl h
    | cons x r ih =>
      intro _
      cases r with
      | nil => rw [List.dropLast_singleton]; show orderP [] [x] < 0; unfold orderP; omega
      | cons y q =>
        rw [List.dropLast_cons_of_ne_nil (by simp)]
        unfold orderP
        rw [if_neg (lt_irrefl' x), if_neg (lt_irrefl' x)]
        exact ih (by simp)
  exact key _ (parts_ne s)

/-- in order, each ahead of all behind it -/
def Srt (t : List Nd) : Prop := ∀ i j, i < j → j < t.length → orderM (t.getD i default).path (t.getD j default).path < 0
theorem order_trans' (a b c : List UInt8) (h1 : orderM a b < 0) (h2 : orderM b c < 0) : orderM a c < 0 := (orderP_trans _ _ _ (by unfold orderM at h1; omega) (by unfold orderM at h2; omega)).2 h1
theorem srt_of {t : List Nd} (h : ∀ i, i < t.length → beforeN t i = true) : Srt t := by
  intro i j hij
  induction j with
  | zero => omega
  | succ j ih =>
    intro hj
    have h1 := h (j + 1) hj
    unfold beforeN at h1
    rw [decide_eq_true_eq] at h1
    by_cases e : i = j
    · subst e; exact h1
    · exact order_trans' _ _ _ (ih (by omega) (by omega)) h1
theorem order_self (a : List UInt8) : orderM a a = 0 := orderP_self _
theorem order_neg' (a b : List UInt8) : orderM b a = - orderM a b := orderP_neg _ _
theorem order_zero' (a b : List UInt8) : orderM a b = 0 ↔ a = b := by
  unfold orderM
  rw [orderP_zero]
  exact ⟨fun h => by rw [← join_parts a, ← join_parts b, h], fun h => by rw [h]⟩

/-- where a path's node can lie -/
theorem findN_some {t : List Nd} {s : List UInt8} {n : Nd} (h : findN t s = some n) : ∃ j, j < t.length ∧ t.getD j default = n ∧ n.path = s := by
  have h1 := List.mem_of_find?_eq_some h
  have h2 := List.find?_some h
  obtain ⟨j, hj, rfl⟩ := List.getElem_of_mem h1
  exact ⟨j, hj, by simp [List.getD, hj], by simpa using h2⟩
theorem findN_none {t : List Nd} {s : List UInt8} : findN t s = none ↔ ∀ j, j < t.length → (t.getD j default).path ≠ s := by
  unfold findN
  rw [List.find?_eq_none]
  constructor
  · intro h j hj
    have := h t[j] (List.getElem_mem hj)
    simpa [List.getD, hj] using this
  · intro h n hn
    obtain ⟨j, hj, rfl⟩ := List.getElem_of_mem hn
    have := h j hj
    simpa [List.getD, hj] using this
theorem findN_at {t : List Nd} {s : List UInt8} {j : Nat} (hs : Srt t) (hj : j < t.length) (h : (t.getD j default).path = s) : findN t s = some (t.getD j default) := by
  cases hf : findN t s with
  | none => exact absurd h (findN_none.1 hf j hj)
  | some n =>
    obtain ⟨k, hk, h1, h2⟩ := findN_some hf
    rcases Nat.lt_trichotomy k j with q | q | q
    · have := hs k j q hj
      rw [h1, h2, h, order_self] at this; omega
    · rw [← q, h1]
    · have := hs j k q hk
      rw [h1, h2, h, order_self] at this; omega
theorem getD_take {t : List Nd} {i j : Nat} (h : j < i) : (t.take i).getD j default = t.getD j default := by
  unfold List.getD
  rw [List.getElem?_take_of_lt h]
theorem srt_take {t : List Nd} (h : Srt t) (i : Nat) : Srt (t.take i) := by
  intro a b hab hb
  have hb' : b < i ∧ b < t.length := by rw [List.length_take] at hb; omega
  rw [getD_take (by omega), getD_take hb'.1]
  exact h a b hab hb'.2
/-- a directory that lies ahead is found among those ahead -/
theorem dirN_take {t : List Nd} (hs : Srt t) {i : Nat} (hi : i < t.length) (hp : pathOK (t.getD i default).path = true) : dirN t (parentM (t.getD i default).path) = dirN (t.take i) (parentM (t.getD i default).path) := by
  unfold dirN
  by_cases hne : parentM (t.getD i default).path = []
  · rw [hne]; rfl
  · have hb := parent_before hp hne
    congr 1
    cases hf : findN t (parentM (t.getD i default).path) with
    | none =>
      have : findN (t.take i) (parentM (t.getD i default).path) = none := by
        rw [findN_none] at hf ⊢
        intro j hj
        have hj' : j < i ∧ j < t.length := by rw [List.length_take] at hj; omega
        rw [getD_take hj'.1]
        exact hf j hj'.2
      rw [this]
    | some n =>
      obtain ⟨j, hj, h1, h2⟩ := findN_some hf
      have hji : j < i := by
        rcases Nat.lt_trichotomy j i with q | q | q
        · exact q
        · subst q
          rw [← h2, h1, order_self] at hb; omega
        · have h3 := hs i j q hj
          rw [h1, h2] at h3
          have := order_trans' _ _ _ hb h3
          rw [order_self] at this; omega
      have hl : j < (t.take i).length := by rw [List.length_take]; omega
      have := findN_at (srt_take hs i) hl (s := parentM (t.getD i default).path) (by rw [getD_take hji, h1]; exact h2)
      rw [this, getD_take hji, h1]
/-- the program's way: a node's directory is looked for among those ahead of it -/
theorem treeOK_take (t : List Nd) : treeOK t = (decide (t.length ≤ 1000) && (List.range t.length).all (fun i => nodeOK (t.take i) t i)) := by
  unfold treeOK
  congr 1
  rw [Bool.eq_iff_iff, List.all_eq_true, List.all_eq_true]
  constructor
  · intro h i hi
    have hs : Srt t := srt_of fun j hj => by
      have := h j (List.mem_range.2 hj)
      unfold nodeOK at this
      simp only [Bool.and_eq_true] at this
      exact this.1.2
    have h1 := h i hi
    unfold nodeOK at h1 ⊢
    simp only [Bool.and_eq_true] at h1 ⊢
    exact ⟨h1.1, by rw [← dirN_take hs (List.mem_range.1 hi) h1.1.1.1]; exact h1.2⟩
  · intro h i hi
    have hs : Srt t := srt_of fun j hj => by
      have := h j (List.mem_range.2 hj)
      unfold nodeOK at this
      simp only [Bool.and_eq_true] at this
      exact this.1.2
    have h1 := h i hi
    unfold nodeOK at h1 ⊢
    simp only [Bool.and_eq_true] at h1 ⊢
    exact ⟨h1.1, by rw [dirN_take hs (List.mem_range.1 hi) h1.1.1.1]; exact h1.2⟩
/-- step by step -/
def restOK (f : Nat → Bool) (i n : Nat) : Bool := (List.range' i (n - i)).all f
theorem restOK_at {f : Nat → Bool} {i n : Nat} (h : i < n) : restOK f i n = (f i && restOK f (i + 1) n) := by
  obtain ⟨k, hk⟩ : ∃ k, n - i = k + 1 := ⟨n - i - 1, by omega⟩
  unfold restOK
  rw [hk, List.range'_succ, List.all_cons, show n - (i + 1) = k by omega]
theorem restOK_end {f : Nat → Bool} {n : Nat} : restOK f n n = true := by unfold restOK; simp
theorem restOK_all {f : Nat → Bool} {n : Nat} : restOK f 0 n = (List.range n).all f := by unfold restOK; rw [Nat.sub_zero, List.range_eq_range']
theorem treeOK_ref {t : List Nd} (h : t.length ≤ 1000) : treeOK t = restOK (fun i => nodeOK t t i) 0 t.length := by
  unfold treeOK; rw [restOK_all, decide_eq_true h, Bool.true_and]
theorem treeOK_own {t : List Nd} (h : t.length ≤ 1000) : treeOK t = restOK (fun i => nodeOK (t.take i) t i) 0 t.length := by
  rw [treeOK_take, restOK_all, decide_eq_true h, Bool.true_and]
theorem treeOK_long {t : List Nd} (h : 1000 < t.length) : treeOK t = false := by
  unfold treeOK; rw [decide_eq_false (by omega)]; rfl
theorem treeOK_srt {t : List Nd} (h : treeOK t = true) : Srt t ∧ t.length ≤ 1000 ∧ ∀ i, i < t.length → nodeOK t t i = true := by
  unfold treeOK at h
  rw [Bool.and_eq_true, List.all_eq_true, decide_eq_true_eq] at h
  refine ⟨srt_of fun j hj => ?_, h.1, fun i hi => h.2 i (List.mem_range.2 hi)⟩
  have := h.2 j (List.mem_range.2 hj)
  unfold nodeOK at this
  simp only [Bool.and_eq_true] at this
  exact this.1.2
end Plain
end Go.Proofs.YtjajoiahgfafgaaGreatDoor
end

/- tree.right. -/
section
set_option linter.unusedVariables false
namespace Go.Proofs.YtjajoiahgfafgaaGreatDoor
open Go.RowKit Plain

/-- a node's cells -/
def ndV (n : Nd) : List Value := [.string ⟨n.path.toArray⟩, .int .i64 n.kind, .string ⟨n.data.toArray⟩, .int .i64 n.mode]

theorem index_has (l : List UInt8) (c : UInt8) : decide (0 ≤ Lib.indexByte l c) = l.contains c := by
  induction l with
  | nil => rfl
  | cons x r ih =>
    have hge := Lib.indexByte_ge r c
    unfold Lib.indexByte
    by_cases h : x = c
    · subst h; simp
    · rw [List.contains_cons, ← ih]
      have hb : (c == x) = false := by simpa using fun e => h e.symm
      rw [hb, Bool.false_or]
      have hx : (x == c) = false := by simpa using h
      rw [hx]
      simp only [Bool.false_eq_true, if_false]
      by_cases e : Lib.indexByte r c = -1
      · rw [e]; rfl
      · have he : (Lib.indexByte r c == -1) = false := by simpa using e
        rw [he]
        simp only [Bool.false_eq_true, if_false]
        rw [decide_eq_decide]
        omega

set_option maxHeartbeats 1000000 in
set_option maxRecDepth 100000 in
theorem right_any (n : Nd) (w : World) (hd : n.data.length ≤ 9223372036854775807) : Calls Tryz.prog 72 #[.agg (ndV n).toArray] w (Ret w (.bool (rightN n))) := by
  obtain ⟨p, k, d, m⟩ := n
  unfold rightN ndV
  simp only at hd ⊢
  have HC := Lib.hid (fun W => (show decide (0 ≤ Lib.indexByte (ByteArray.mk d.toArray).data.toList 0) = d.contains 0 from index_has d 0) ▸ Tryz.strings_Contains_one ⟨d.toArray⟩ 0 W)
  by_cases h1 : k = 1
  · subst h1
    go_enter Tryz.func72, Tryz.ntmps72
    go_wp2_with (fail)
    all_goals
      go_ret
      exact ⟨by first | (simp_all; done) | (simp; omega) | (simp_all; omega), (Below.refl _ _).alloc (Nat.le_refl _) _⟩
  · have e1 : (k == 1) = false := by simp [h1]
    by_cases h2 : k = 2
    · subst h2
      cases d with
      | nil =>
        go_enter Tryz.func72, Tryz.ntmps72
        go_wp2_with (fail)
        all_goals
          go_ret
          exact ⟨by first | (simp_all; done) | (simp; omega) | (simp_all; omega), (Below.refl _ _).alloc (Nat.le_refl _) _⟩
      | cons c r =>
        go_enter Tryz.func72, Tryz.ntmps72
        go_wp2_with (fail)
        all_goals
          go_ret
          exact ⟨by first | (simp_all; done) | (simp; omega) | (simp_all; omega), (Below.refl _ _).alloc (Nat.le_refl _) _⟩
    · by_cases h3 : k = 3
      · subst h3
        cases d with
        | nil =>
          go_enter Tryz.func72, Tryz.ntmps72
          go_wp2_with (fail)
          all_goals
            go_ret
            exact ⟨by first | (simp_all; done) | (simp; omega) | (simp_all; omega), (Below.refl _ _).alloc (Nat.le_refl _) _⟩
        | cons c r =>
          go_enter Tryz.func72, Tryz.ntmps72
          go_wp2_with (go_at_call 95; refine (HC.out _).mono ?_; rintro e w1 ⟨rfl, rfl⟩)
          all_goals
            go_ret
            exact ⟨by first | (simp_all; done) | (simp; omega) | (simp_all; omega), (Below.refl _ _).alloc (Nat.le_refl _) _⟩
      · go_enter Tryz.func72, Tryz.ntmps72
        go_wp2_with (fail)
        all_goals
          go_ret
          exact ⟨by first | (simp_all; done) | (simp; omega) | (simp_all; omega), (Below.refl _ _).alloc (Nat.le_refl _) _⟩
end Go.Proofs.YtjajoiahgfafgaaGreatDoor
end

/- The library's check of UTF-8, laid at this program. -/
section
namespace Go.Proofs.YtjajoiahgfafgaaGreatDoor
open Go.RowKit

def lays196_ren : Go.Shelf.Ren := ⟨fun | 196 => 123 | 259 => 146 | n => n, fun | 9 => 9 | 3 => 3 | 4 => 4 | 5 => 5 | 0 => 0 | 12 => 12 | 46 => 107 | 53 => 110 | 119 => 170 | 139 => 173 | 138 => 172 | n => n, fun | 3 => 1 | 4 => 2 | n => n⟩
theorem lays196 : Go.Proofs.Lays.n196 Tryz.prog lays196_ren := {
  mixed := by kernel_rfl
  f196 := Tryz.func123.trans (congrArg some (by kernel_rfl))
  f259 := Tryz.func146.trans (congrArg some (by kernel_rfl))
  t0 := Tryz.underlying0
  a0 := Tryz.isAgg0
  z0 := Tryz.sizeOf0
  v0 := Tryz.zeroValue0
  t3 := Tryz.underlying3
  a3 := Tryz.isAgg3
  z3 := Tryz.sizeOf3
  v3 := Tryz.zeroValue3
  t4 := Tryz.underlying4
  a4 := Tryz.isAgg4
  z4 := Tryz.sizeOf4
  v4 := Tryz.zeroValue4
  t5 := Tryz.underlying5
  a5 := Tryz.isAgg5
  z5 := Tryz.sizeOf5
  v5 := Tryz.zeroValue5
  t9 := Tryz.underlying9
  a9 := Tryz.isAgg9
  z9 := Tryz.sizeOf9
  v9 := Tryz.zeroValue9
  t12 := Tryz.underlying12
  a12 := Tryz.isAgg12
  z12 := Tryz.sizeOf12
  v12 := Tryz.zeroValue12
  t46 := Tryz.underlying107
  a46 := Tryz.isAgg107
  z46 := Tryz.sizeOf107
  v46 := Tryz.zeroValue107
  t53 := Tryz.underlying110
  a53 := Tryz.isAgg110
  z53 := Tryz.sizeOf110
  v53 := Tryz.zeroValue110
  t119 := Tryz.underlying170
  a119 := Tryz.isAgg170
  z119 := Tryz.sizeOf170
  t138 := Tryz.underlying172
  a138 := Tryz.isAgg172
  z138 := Tryz.sizeOf172
  v138 := Tryz.zeroValue172
  t139 := Tryz.underlying173
  a139 := Tryz.isAgg173
  z139 := Tryz.sizeOf173
  v139 := Tryz.zeroValue173
  g3 := by kernel_rfl
  g4 := by kernel_rfl }

/-- The two tables lie where they lie. -/
def Tabs (w : World) : Prop := Lib.Utf8Tabs 1 2 w

theorem ValidString_any (l : List UInt8) (w : World) (hl : l.length ≤ 4294967296) (hT : Tabs w) :
    Calls Tryz.prog 123 #[.string ⟨l.toArray⟩] w (Ret w (.bool (Lib.validD l))) :=
  (Any.utf8_ValidString lays196 ⟨l.toArray⟩ w (by simp [ByteArray.size]; omega) hT).mono fun _ _ ⟨he, hw⟩ => ⟨he, hw⟩
end Go.Proofs.YtjajoiahgfafgaaGreatDoor
end

/- Plain laws of the reading of a rune. -/
section
set_option linter.unusedVariables false
set_option linter.unusedSimpArgs false
namespace Go.Proofs.YtjajoiahgfafgaaGreatDoor.Plain
open Go.Lib

/-- how many bytes the rune has at which a text begins; 0: none -/
def runeW (l : List UInt8) : Nat := if (decodeL l).1 = 65533 ∧ (decodeL l).2 = 1 then 0 else (decodeL l).2
def runeN (m b0 b1 b2 b3 : Nat) : Nat := if (decodeN m b0 b1 b2 b3).1 = 65533 ∧ (decodeN m b0 b1 b2 b3).2 = 1 then 0 else (decodeN m b0 b1 b2 b3).2
theorem runeW_N (l : List UInt8) (k : Nat) : runeW (l.drop k) = runeN (l.length - k) (l.getD k 0).toNat (l.getD (k + 1) 0).toNat (l.getD (k + 2) 0).toNat (l.getD (k + 3) 0).toNat := by
  have e : decodeL (l.drop k) = decodeN (l.length - k) (l.getD k 0).toNat (l.getD (k + 1) 0).toNat (l.getD (k + 2) 0).toNat (l.getD (k + 3) 0).toNat := by
    rw [decodeL_N]
    simp [List.getD, List.getElem?_drop]
  unfold runeW runeN
  rw [e]
def vAt (l : List UInt8) (k v0 : Nat) : Nat → Nat
  | 0 => v0
  | 1 => v0
  | i + 2 => vAt l k v0 (i + 1) * 64 + ((l.getD (k + (i + 1)) 0).toNat - 128)
theorem vAt_one (l : List UInt8) (k v0 : Nat) : vAt l k v0 1 = v0 := rfl
theorem vAt_succ (l : List UInt8) (k v0 i : Nat) (h : 1 ≤ i) : vAt l k v0 (i + 1) = vAt l k v0 i * 64 + ((l.getD (k + i) 0).toNat - 128) := by
  obtain ⟨j, rfl⟩ : ∃ j, i = j + 1 := ⟨i - 1, by omega⟩
  rfl
theorem vAt_le (l : List UInt8) (k v0 : Nat) (h : v0 ≤ 31) : ∀ i, 1 ≤ i → i ≤ 4 → vAt l k v0 i ≤ 16777215 := by
  intro i h1 h2
  have b : ∀ j, (l.getD (k + j) 0).toNat < 256 := fun j => (l.getD (k + j) 0).toNat_lt
  have b1 := b 1
  have b2 := b 2
  have b3 := b 3
  have e2 : vAt l k v0 2 = _ := vAt_succ l k v0 1 (by omega)
  have e3 : vAt l k v0 3 = _ := vAt_succ l k v0 2 (by omega)
  have e4 : vAt l k v0 4 = _ := vAt_succ l k v0 3 (by omega)
  rw [vAt_one] at e2
  have : i = 1 ∨ i = 2 ∨ i = 3 ∨ i = 4 := by omega
  rcases this with rfl | rfl | rfl | rfl
  · rw [vAt_one]; omega
  · omega
  · omega
  · omega
def finW (n low v : Nat) : Nat := if v < low ∨ 1114111 < v ∨ (55296 ≤ v ∧ v ≤ 57343) then 0 else n

theorem runeW_asc (l : List UInt8) (k : Nat) (h : (l.getD k 0).toNat < 128) : runeW (l.drop k) = 1 := by
  rw [runeW_N]; unfold runeN decodeN; rw [if_pos h, if_neg (fun e => by have := e.1; simp only at this; omega)]
theorem runeW_bad (l : List UInt8) (k : Nat) (h : (128 ≤ (l.getD k 0).toNat ∧ (l.getD k 0).toNat < 194) ∨ 245 ≤ (l.getD k 0).toNat) : runeW (l.drop k) = 0 := by
  have := (l.getD k 0).toNat_lt
  rw [runeW_N]; unfold runeN; rw [decodeN_bad _ _ _ _ _ (by omega)]; rfl

set_option maxHeartbeats 1000000 in
theorem runeN_2 (m b0 b1 b2 b3 : Nat) (hlo : 194 ≤ b0) (hhi : b0 ≤ 223) (h1 : b1 < 256) (h2 : b2 < 256) (h3 : b3 < 256) :
    (m < 2 → 0 < m → runeN m b0 b1 b2 b3 = 0) ∧ (¬ m < 2 → ¬ (128 ≤ b1 ∧ b1 ≤ 191) → runeN m b0 b1 b2 b3 = 0) ∧ (¬ m < 2 → (128 ≤ b1 ∧ b1 ≤ 191) → runeN m b0 b1 b2 b3 = finW 2 128 ((b0 - 192) * 64 + (b1 - 128))) := by
  refine ⟨?_, ?_, ?_⟩
  all_goals
    intros
    unfold runeN
    try unfold finW
    generalize hd : decodeN m b0 b1 b2 b3 = d
    unfold decodeN at hd
    repeat' split at hd
    all_goals subst hd
    all_goals simp only [true_and, and_true, reduceIte]
    all_goals (repeat' split)
    all_goals first | rfl | omega

theorem runeW_2 (l : List UInt8) (k : Nat) (hk : k < l.length) (hlo : 194 ≤ (l[k]).toNat) (hhi : (l[k]).toNat ≤ 223) :
    (l.length < k + 2 → runeW (l.drop k) = 0) ∧ (∀ i, 1 ≤ i → i < 2 → ¬ l.length < k + 2 → ¬ (128 ≤ (l.getD (k + i) 0).toNat ∧ (l.getD (k + i) 0).toNat ≤ 191) → runeW (l.drop k) = 0) ∧
      (¬ l.length < k + 2 → (∀ j, 1 ≤ j → j < 2 → 128 ≤ (l.getD (k + j) 0).toNat ∧ (l.getD (k + j) 0).toNat ≤ 191) → runeW (l.drop k) = finW 2 128 (vAt l k ((l[k]).toNat - 192) 2)) := by
  have hg : l.getD k 0 = l[k] := by simp [List.getD, hk]
  have h := runeN_2 (l.length - k) (l.getD k 0).toNat (l.getD (k + 1) 0).toNat (l.getD (k + 2) 0).toNat (l.getD (k + 3) 0).toNat (by rw [hg]; exact hlo) (by rw [hg]; exact hhi) (UInt8.toNat_lt _) (UInt8.toNat_lt _) (UInt8.toNat_lt _)
  rw [← runeW_N, hg] at h
  refine ⟨fun hl => h.1 (by omega) (by omega), fun i h1 h2 hl hc => ?_, fun hl hc => ?_⟩
  · obtain rfl : i = 1 := by omega
    exact h.2.1 (by omega) hc
  · exact h.2.2 (by omega) (hc 1 (by omega) (by omega))

set_option maxHeartbeats 1000000 in
theorem runeN_3 (m b0 b1 b2 b3 : Nat) (hlo : 224 ≤ b0) (hhi : b0 ≤ 239) (h1 : b1 < 256) (h2 : b2 < 256) (h3 : b3 < 256) :
    (m < 3 → 0 < m → runeN m b0 b1 b2 b3 = 0) ∧ (¬ m < 3 → ¬ (128 ≤ b1 ∧ b1 ≤ 191) → runeN m b0 b1 b2 b3 = 0) ∧ (¬ m < 3 → ¬ (128 ≤ b2 ∧ b2 ≤ 191) → runeN m b0 b1 b2 b3 = 0) ∧ (¬ m < 3 → (128 ≤ b1 ∧ b1 ≤ 191) → (128 ≤ b2 ∧ b2 ≤ 191) → runeN m b0 b1 b2 b3 = finW 3 2048 (((b0 - 224) * 64 + (b1 - 128)) * 64 + (b2 - 128))) := by
  refine ⟨?_, ?_, ?_, ?_⟩
  all_goals
    intros
    unfold runeN
    try unfold finW
    generalize hd : decodeN m b0 b1 b2 b3 = d
    unfold decodeN at hd
    repeat' split at hd
    all_goals subst hd
    all_goals simp only [true_and, and_true, reduceIte]
    all_goals (repeat' split)
    all_goals first | rfl | omega

theorem runeW_3 (l : List UInt8) (k : Nat) (hk : k < l.length) (hlo : 224 ≤ (l[k]).toNat) (hhi : (l[k]).toNat ≤ 239) :
    (l.length < k + 3 → runeW (l.drop k) = 0) ∧ (∀ i, 1 ≤ i → i < 3 → ¬ l.length < k + 3 → ¬ (128 ≤ (l.getD (k + i) 0).toNat ∧ (l.getD (k + i) 0).toNat ≤ 191) → runeW (l.drop k) = 0) ∧
      (¬ l.length < k + 3 → (∀ j, 1 ≤ j → j < 3 → 128 ≤ (l.getD (k + j) 0).toNat ∧ (l.getD (k + j) 0).toNat ≤ 191) → runeW (l.drop k) = finW 3 2048 (vAt l k ((l[k]).toNat - 224) 3)) := by
  have hg : l.getD k 0 = l[k] := by simp [List.getD, hk]
  have h := runeN_3 (l.length - k) (l.getD k 0).toNat (l.getD (k + 1) 0).toNat (l.getD (k + 2) 0).toNat (l.getD (k + 3) 0).toNat (by rw [hg]; exact hlo) (by rw [hg]; exact hhi) (UInt8.toNat_lt _) (UInt8.toNat_lt _) (UInt8.toNat_lt _)
  rw [← runeW_N, hg] at h
  refine ⟨fun hl => h.1 (by omega) (by omega), fun i h1 h2 hl hc => ?_, fun hl hc => ?_⟩
  · have : i = 1 ∨ i = 2 := by omega
    rcases this with rfl | rfl
    · exact h.2.1 (by omega) hc
    · exact h.2.2.1 (by omega) hc
  · exact h.2.2.2 (by omega) (hc 1 (by omega) (by omega)) (hc 2 (by omega) (by omega))

set_option maxHeartbeats 1000000 in
theorem runeN_4 (m b0 b1 b2 b3 : Nat) (hlo : 240 ≤ b0) (hhi : b0 ≤ 244) (h1 : b1 < 256) (h2 : b2 < 256) (h3 : b3 < 256) :
    (m < 4 → 0 < m → runeN m b0 b1 b2 b3 = 0) ∧ (¬ m < 4 → ¬ (128 ≤ b1 ∧ b1 ≤ 191) → runeN m b0 b1 b2 b3 = 0) ∧ (¬ m < 4 → ¬ (128 ≤ b2 ∧ b2 ≤ 191) → runeN m b0 b1 b2 b3 = 0) ∧ (¬ m < 4 → ¬ (128 ≤ b3 ∧ b3 ≤ 191) → runeN m b0 b1 b2 b3 = 0) ∧ (¬ m < 4 → (128 ≤ b1 ∧ b1 ≤ 191) → (128 ≤ b2 ∧ b2 ≤ 191) → (128 ≤ b3 ∧ b3 ≤ 191) → runeN m b0 b1 b2 b3 = finW 4 65536 ((((b0 - 240) * 64 + (b1 - 128)) * 64 + (b2 - 128)) * 64 + (b3 - 128))) := by
  refine ⟨?_, ?_, ?_, ?_, ?_⟩
  all_goals
    intros
    unfold runeN
    try unfold finW
    generalize hd : decodeN m b0 b1 b2 b3 = d
    unfold decodeN at hd
    repeat' split at hd
    all_goals subst hd
    all_goals simp only [true_and, and_true, reduceIte]
    all_goals (repeat' split)
    all_goals first | rfl | omega

theorem runeW_4 (l : List UInt8) (k : Nat) (hk : k < l.length) (hlo : 240 ≤ (l[k]).toNat) (hhi : (l[k]).toNat ≤ 244) :
    (l.length < k + 4 → runeW (l.drop k) = 0) ∧ (∀ i, 1 ≤ i → i < 4 → ¬ l.length < k + 4 → ¬ (128 ≤ (l.getD (k + i) 0).toNat ∧ (l.getD (k + i) 0).toNat ≤ 191) → runeW (l.drop k) = 0) ∧
      (¬ l.length < k + 4 → (∀ j, 1 ≤ j → j < 4 → 128 ≤ (l.getD (k + j) 0).toNat ∧ (l.getD (k + j) 0).toNat ≤ 191) → runeW (l.drop k) = finW 4 65536 (vAt l k ((l[k]).toNat - 240) 4)) := by
  have hg : l.getD k 0 = l[k] := by simp [List.getD, hk]
  have h := runeN_4 (l.length - k) (l.getD k 0).toNat (l.getD (k + 1) 0).toNat (l.getD (k + 2) 0).toNat (l.getD (k + 3) 0).toNat (by rw [hg]; exact hlo) (by rw [hg]; exact hhi) (UInt8.toNat_lt _) (UInt8.toNat_lt _) (UInt8.toNat_lt _)
  rw [← runeW_N, hg] at h
  refine ⟨fun hl => h.1 (by omega) (by omega), fun i h1 h2 hl hc => ?_, fun hl hc => ?_⟩
  · have : i = 1 ∨ i = 2 ∨ i = 3 := by omega
    rcases this with rfl | rfl | rfl
    · exact h.2.1 (by omega) hc
    · exact h.2.2.1 (by omega) hc
    · exact h.2.2.2.1 (by omega) hc
  · exact h.2.2.2.2 (by omega) (hc 1 (by omega) (by omega)) (hc 2 (by omega) (by omega)) (hc 3 (by omega) (by omega))

/-- valid: rune by rune -/
theorem validD_rune (l : List UInt8) (k : Nat) (hk : k < l.length) : validD (l.drop k) = if runeW (l.drop k) = 0 then false else validD (l.drop (k + runeW (l.drop k))) := by
  have hne : l.drop k ≠ [] := by intro e; have := congrArg List.length e; simp at this; omega
  have hw := decodeL_width (l.drop k)
  have hpos : 0 < (l.drop k).length := by simp; omega
  rw [validD_step _ hne]
  unfold runeW
  split
  · simp
  · rw [if_neg (by omega), List.drop_drop]
set_option maxHeartbeats 1000000 in
theorem runeN_le (m b0 b1 b2 b3 : Nat) (hm : 0 < m) : runeN m b0 b1 b2 b3 ≤ m := by
  unfold runeN
  generalize hd : decodeN m b0 b1 b2 b3 = d
  unfold decodeN at hd
  repeat' split at hd
  all_goals subst hd
  all_goals simp only [true_and, and_true]
  all_goals (repeat' split)
  all_goals omega
theorem runeW_le (l : List UInt8) (k : Nat) (hk : k < l.length) : runeW (l.drop k) ≤ l.length - k := by
  rw [runeW_N]; exact runeN_le _ _ _ _ _ (by omega)
/-- a rune from 128 on, where a text is ranged over -/
theorem dec_hi (l : List UInt8) (i : Nat) (hi : i < l.length) (h : 128 ≤ (l.getD i 0).toNat) :
    128 ≤ (Utf8.decode ⟨l.toArray⟩ i).1 ∧ (Utf8.decode ⟨l.toArray⟩ i).1 ≤ 1114111 ∧ Utf8.valid ((Utf8.decode ⟨l.toArray⟩ i).1 : Int) = true ∧ 1 ≤ (Utf8.decode ⟨l.toArray⟩ i).2 ∧ i + (Utf8.decode ⟨l.toArray⟩ i).2 ≤ l.length ∧
      ∀ j, i ≤ j → j < i + (Utf8.decode ⟨l.toArray⟩ i).2 → 128 ≤ (l.getD j 0).toNat := by
  rw [decode_N]
  simp only [List.toList_toArray]
  have k0 := (l.getD i 0).toNat_lt
  have k1 := (l.getD (i + 1) 0).toNat_lt
  have k2 := (l.getD (i + 2) 0).toNat_lt
  have k3 := (l.getD (i + 3) 0).toNat_lt
  have hj : ∀ (k : Nat), (∀ m, m < k → 128 ≤ (l.getD (i + m) 0).toNat) → ∀ j, i ≤ j → j < i + k → 128 ≤ (l.getD j 0).toNat := fun k hk j h1 h2 => by
    have := hk (j - i) (by omega)
    rwa [show i + (j - i) = j by omega] at this
  generalize hx0 : l.getD i 0 = x0 at *
  generalize hx1 : l.getD (i + 1) 0 = x1 at *
  generalize hx2 : l.getD (i + 2) 0 = x2 at *
  generalize hx3 : l.getD (i + 3) 0 = x3 at *
  unfold Utf8.valid
  rcases decodeN_shape (l.length - i) x0.toNat x1.toNat x2.toNat x3.toNat with ⟨c, e⟩ | ⟨c1, c2, c3, cv, e⟩ | ⟨c1, c2, c3, c4, cv, cs, e⟩ | ⟨c1, c2, c3, c4, c5, cv, cw, e⟩ | e
  · omega
  · rw [e]
    refine ⟨by simp only; omega, by simp only; omega, by simp; omega, by simp, by simp only; omega, hj _ (fun m hm => ?_)⟩
    have : m = 0 ∨ m = 1 := by simp only at hm; omega
    rcases this with rfl | rfl
    · rw [Nat.add_zero, hx0]; omega
    · rw [hx1]; omega
  · rw [e]
    refine ⟨by simp only; omega, by simp only; omega, by simp; omega, by simp, by simp only; omega, hj _ (fun m hm => ?_)⟩
    have : m = 0 ∨ m = 1 ∨ m = 2 := by simp only at hm; omega
    rcases this with rfl | rfl | rfl
    · rw [Nat.add_zero, hx0]; omega
    · rw [hx1]; omega
    · rw [hx2]; omega
  · rw [e]
    refine ⟨by simp only; omega, by simp only; omega, by simp; omega, by simp, by simp only; omega, hj _ (fun m hm => ?_)⟩
    have : m = 0 ∨ m = 1 ∨ m = 2 ∨ m = 3 := by simp only at hm; omega
    rcases this with rfl | rfl | rfl | rfl
    · rw [Nat.add_zero, hx0]; omega
    · rw [hx1]; omega
    · rw [hx2]; omega
    · rw [hx3]; omega
  · rw [e]
    refine ⟨by simp, by simp, by simp, by simp, by simp only; omega, hj _ (fun m hm => ?_)⟩
    obtain rfl : m = 0 := by simp only at hm; omega
    rw [Nat.add_zero, hx0]; omega
theorem dec_lo (l : List UInt8) (i : Nat) (h : (l.getD i 0).toNat < 128) : Utf8.decode ⟨l.toArray⟩ i = ((l.getD i 0).toNat, 1) := by
  rw [decode_N]; simp only [List.toList_toArray]; exact decodeN_ascii _ _ _ _ _ h
end Go.Proofs.YtjajoiahgfafgaaGreatDoor.Plain
end
