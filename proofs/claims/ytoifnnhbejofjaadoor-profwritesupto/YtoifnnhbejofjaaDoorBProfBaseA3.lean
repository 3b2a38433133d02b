/- Texts joined: PlainGlob. -/
import Derived.Laws.BitsLemmas
import Derived.Test.YtoifnnhbejofjaaDoorBProfBaseA1
import Derived.Test.YtoifnnhbejofjaaDoorBProfBaseA2
set_option linter.unusedSimpArgs false
set_option linter.unusedVariables false

/- Plain laws of patterns: elements against runes, the order of runes, what is a pattern, parts, what rules ignore. No program in sight. -/
section
/-! part 1 -/
namespace Go.Proofs.YtoifnnhbejofjaaDoor.Plain

section
variable {R : Type}
/-- an element: none: a star; some f: one rune that f takes -/
def matchT : List (Option (R → Bool)) → List R → Bool
  | [], n => n.isEmpty
  | none :: p, n => matchS p n
  | some _ :: _, [] => false
  | some f :: p, r :: n => f r && matchT p n
where
  /-- a star, and p behind it -/
  matchS (p : List (Option (R → Bool))) : List R → Bool
    | [] => matchT p []
    | r :: n => matchT p (r :: n) || matchS p n
theorem matchT_none (p : List (Option (R → Bool))) (n : List R) : matchT (none :: p) n = matchT.matchS p n := by simp only [matchT]
theorem matchS_nil (p : List (Option (R → Bool))) : matchT.matchS p ([] : List R) = matchT p [] := by simp only [matchT.matchS]
theorem matchS_cons (p : List (Option (R → Bool))) (r : R) (n : List R) : matchT.matchS p (r :: n) = (matchT p (r :: n) || matchT.matchS p n) := by simp only [matchT.matchS]
theorem matchT_star (p : List (Option (R → Bool))) (n : List R) : matchT (none :: p) n = true ↔ ∃ i, i ≤ n.length ∧ matchT p (n.drop i) = true := by
  rw [matchT_none]
  induction n with
  | nil =>
    rw [matchS_nil]
    constructor
    · intro h; exact ⟨0, by simp, by simpa using h⟩
    · rintro ⟨i, hi, h⟩; simpa using h
  | cons r n ih =>
    rw [matchS_cons, Bool.or_eq_true, ih]
    constructor
    · rintro (h | ⟨i, hi, h⟩)
      · exact ⟨0, by simp, by simpa using h⟩
      · exact ⟨i + 1, by simp; omega, by simpa using h⟩
    · rintro ⟨i, hi, h⟩
      cases i with
      | zero => exact .inl (by simpa using h)
      | succ i => exact .inr ⟨i, by simp at hi; omega, by simpa using h⟩
theorem matchT_star_drop {p : List (Option (R → Bool))} {n : List R} {i : Nat} (h : matchT (none :: p) (n.drop i) = true) : matchT (none :: p) n = true := by
  rw [matchT_star] at h ⊢
  obtain ⟨k, hk, h⟩ := h
  rw [List.drop_drop] at h
  by_cases q : i + k ≤ n.length
  · exact ⟨i + k, q, h⟩
  · refine ⟨n.length, Nat.le_refl _, ?_⟩
    rw [List.drop_length]
    rw [List.drop_eq_nil_of_le (by omega)] at h
    exact h
/-- no star among them -/
def NoStar (q : List (Option (R → Bool))) : Prop := ∀ x ∈ q, x ≠ none
theorem match_prefix : ∀ {q p : List (Option (R → Bool))} {n : List R}, NoStar q → matchT (q ++ p) n = true → q.length ≤ n.length ∧ matchT p (n.drop q.length) = true
  | [], p, n, _, h => ⟨by simp, by simpa using h⟩
  | none :: q, p, n, hq, h => absurd rfl (hq none (by simp))
  | some f :: q, p, [], hq, h => by simp [matchT] at h
  | some f :: q, p, r :: n, hq, h => by
    simp only [List.cons_append, matchT, Bool.and_eq_true] at h
    have := match_prefix (q := q) (p := p) (n := n) (fun x hx => hq x (by simp [hx])) h.2
    exact ⟨by simp; omega, by simpa using this.2⟩
/-- where to go back to: behind the last star, and the name where it was tried last -/
abbrev Back (R : Type) := Option (List (Option (R → Bool)) × List R)
def backOK : Back R → Prop
  | none => False
  | some (a, fr) => ∃ i, 1 ≤ i ∧ i ≤ fr.length ∧ matchT a (fr.drop i) = true
/-- how the state stands to where it would go back to -/
def Stands (p : List (Option (R → Bool))) (n : List R) : Back R → Prop
  | none => True
  | some (a, fr) => ∃ q u, a = q ++ p ∧ NoStar q ∧ fr = u ++ n ∧ u.length = q.length
/-- what is still to be found -/
def Open (p : List (Option (R → Bool))) (n : List R) (b : Back R) : Prop := matchT p n = true ∨ backOK b
theorem Stands.start (p : List (Option (R → Bool))) (n : List R) : Stands p n (some (p, n)) := ⟨[], [], rfl, fun x hx => (by cases hx), rfl, rfl⟩
/-- a star -/
theorem open_star {p : List (Option (R → Bool))} {n : List R} {b : Back R} (h : Stands (none :: p) n b) : Open (none :: p) n b ↔ Open p n (some (p, n)) := by
  constructor
  · rintro (h1 | h1)
    · rw [matchT_star] at h1
      obtain ⟨i, hi, h2⟩ := h1
      cases i with
      | zero => exact .inl (by simpa using h2)
      | succ i => exact .inr ⟨i + 1, by omega, hi, h2⟩
    · cases b with
      | none => exact h1.elim
      | some x =>
        obtain ⟨a, fr⟩ := x
        obtain ⟨q, u, rfl, hq, rfl, hu⟩ := h
        obtain ⟨i, hi1, hi2, hm⟩ := h1
        have h3 := (match_prefix hq hm).2
        rw [List.drop_drop] at h3
        have h4 : (u ++ n).drop (i + q.length) = n.drop i := by
          rw [← hu, Nat.add_comm, ← List.drop_drop]; simp
        rw [h4] at h3
        have h5 := matchT_star_drop h3
        rw [matchT_star] at h5
        obtain ⟨k, hk, h6⟩ := h5
        cases k with
        | zero => exact .inl (by simpa using h6)
        | succ k => exact .inr ⟨k + 1, by omega, hk, h6⟩
  · rintro (h1 | h1)
    · exact .inl (by rw [matchT_star]; exact ⟨0, by simp, by simpa using h1⟩)
    · obtain ⟨i, hi1, hi2, hm⟩ := h1
      exact .inl (by rw [matchT_star]; exact ⟨i, hi2, hm⟩)
/-- a rune that is taken -/
theorem open_one {f : R → Bool} {p : List (Option (R → Bool))} {r : R} {n : List R} {b : Back R} (hf : f r = true) : Open (some f :: p) (r :: n) b ↔ Open p n b := by
  unfold Open
  simp [matchT, hf]
theorem Stands.one {f : R → Bool} {p : List (Option (R → Bool))} {r : R} {n : List R} {b : Back R} (h : Stands (some f :: p) (r :: n) b) : Stands p n b := by
  cases b with
  | none => trivial
  | some x =>
    obtain ⟨a, fr⟩ := x
    obtain ⟨q, u, rfl, hq, rfl, hu⟩ := h
    refine ⟨q ++ [some f], u ++ [r], by simp, fun x hx => ?_, by simp, by simp [hu]⟩
    rcases List.mem_append.1 hx with h | h
    · exact hq x h
    · simp at h; subst h; simp
/-- nothing is taken: back -/
theorem open_back {p : List (Option (R → Bool))} {r : R} {n : List R} {a : List (Option (R → Bool))} {fr : List R} (hno : matchT p (r :: n) = false) (h : Stands p (r :: n) (some (a, fr))) :
    Open p (r :: n) (some (a, fr)) ↔ Open a fr.tail (some (a, fr.tail)) := by
  obtain ⟨q, u, rfl, hq, rfl, hu⟩ := h
  generalize hfr : u ++ r :: n = fr
  have hne : fr ≠ [] := by rw [← hfr]; simp
  obtain ⟨c, fr', rfl⟩ : ∃ c fr', fr = c :: fr' := by cases fr with | nil => exact absurd rfl hne | cons c t => exact ⟨c, t, rfl⟩
  constructor
  · rintro (h1 | ⟨i, hi1, hi2, hm⟩)
    · rw [hno] at h1; cases h1
    · obtain ⟨k, rfl⟩ : ∃ k, i = k + 1 := ⟨i - 1, by omega⟩
      cases k with
      | zero => exact .inl (by simpa using hm)
      | succ k => exact .inr ⟨k + 1, by omega, by simp at hi2 ⊢; omega, by simpa using hm⟩
  · rintro (h1 | ⟨i, hi1, hi2, hm⟩)
    · exact .inr ⟨1, by omega, by simp, by simpa using h1⟩
    · exact .inr ⟨i + 1, by omega, by simp at hi2 ⊢; omega, by simpa using hm⟩
theorem open_none {p : List (Option (R → Bool))} {n : List R} (hno : matchT p n = false) : ¬ Open p n none := by
  rintro (h | h)
  · rw [hno] at h; cases h
  · exact h
theorem match_end (p : List (Option (R → Bool))) : matchT p ([] : List R) = true ↔ ∀ x ∈ p, x = none := by
  induction p with
  | nil => simp [matchT]
  | cons x p ih =>
    cases x with
    | none => rw [matchT_none, matchS_nil, ih]; simp
    | some f => simp [matchT]
/-- the name is at its end: only stars may stand behind -/
theorem open_end {p : List (Option (R → Bool))} {b : Back R} (h : Stands p [] b) : Open p [] b ↔ ∀ x ∈ p, x = none := by
  have h1 := match_end (R := R) p
  constructor
  · rintro (h2 | h2)
    · exact h1.1 h2
    · cases b with
      | none => exact h2.elim
      | some x =>
        obtain ⟨a, fr⟩ := x
        obtain ⟨q, u, rfl, hq, rfl, hu⟩ := h
        obtain ⟨i, hi1, hi2, hm⟩ := h2
        have := (match_prefix hq hm).1
        simp at this hi2
        omega
  · intro h2
    exact .inl (h1.2 h2)
end
end Go.Proofs.YtoifnnhbejofjaaDoor.Plain

/-! part 2 -/
namespace Go.Proofs.YtoifnnhbejofjaaDoor.Plain
open Go.Lib

/-- the rune, as a text, with which a text begins -/
def runeT (l : List UInt8) : List UInt8 := l.take (runeW l)
/-- the runes of a valid text -/
def runesF : Nat → List UInt8 → List (List UInt8)
  | 0, _ => []
  | _, [] => []
  | f + 1, c :: l => (c :: l).take (max 1 (runeW (c :: l))) :: runesF f ((c :: l).drop (max 1 (runeW (c :: l))))
def runesP (l : List UInt8) : List (List UInt8) := runesF l.length l
theorem runesF_fuel : ∀ (f g : Nat) (l : List UInt8), l.length ≤ f → l.length ≤ g → runesF f l = runesF g l := by
  intro f
  induction f with
  | zero =>
    intro g l h1 h2
    have : l = [] := List.eq_nil_of_length_eq_zero (by omega)
    subst this
    cases g <;> rfl
  | succ f ih =>
    intro g l h1 h2
    cases l with
    | nil => cases g <;> rfl
    | cons c l =>
      obtain ⟨g', rfl⟩ : ∃ g', g = g' + 1 := ⟨g - 1, by simp at h2; omega⟩
      show _ :: runesF f _ = _ :: runesF g' _
      rw [ih g' _ (by simp at h1 ⊢; omega) (by simp at h2 ⊢; omega)]
theorem runesP_nil : runesP [] = [] := rfl
theorem runesP_step {l : List UInt8} (hne : l ≠ []) (hw : 1 ≤ runeW l) : runesP l = runeT l :: runesP (l.drop (runeW l)) := by
  cases l with
  | nil => exact absurd rfl hne
  | cons c l =>
    unfold runesP runeT
    show (c :: l).take (max 1 (runeW (c :: l))) :: runesF l.length ((c :: l).drop (max 1 (runeW (c :: l)))) = _
    rw [show max 1 (runeW (c :: l)) = runeW (c :: l) by omega]
    rw [runesF_fuel l.length _ _ (by simp; omega) (Nat.le_refl _)]

/-- the place of the ']' : what stands from place i on is read; none: the brackets are not as they must be -/
def closeF (from' : Nat) : Nat → List UInt8 → Option Nat
  | _, [] => none
  | i, c :: r => if c = 47 then none else if c = 92 then (match r with
      | [] => none
      | d :: r' => if d = 47 then none else closeF from' (i + 2) r') else if c = 93 then (if i = from' then none else some i) else closeF from' (i + 1) r
def setFrom (s : List UInt8) : Nat := if (s.drop 1).head? = some 33 then 2 else 1
/-- of a text that begins with '[' -/
def closeP (s : List UInt8) : Option Nat := closeF (setFrom s) (setFrom s) (s.drop (setFrom s))
theorem closeF_le (from' : Nat) : ∀ (n : Nat) (r : List UInt8) (i e : Nat), r.length ≤ n → closeF from' i r = some e → i ≤ e ∧ e < i + r.length ∧ e ≠ from' ∧ r.getD (e - i) 0 = 93 := by
  intro n
  induction n with
  | zero =>
    intro r i e hr h
    have : r = [] := List.eq_nil_of_length_eq_zero (by omega)
    subst this
    simp [closeF] at h
  | succ n ih =>
    intro r i e hr h
    cases r with
    | nil => simp [closeF] at h
    | cons c r =>
      unfold closeF at h
      split at h
      · cases h
      split at h
      · split at h
        · cases h
        · rename_i d r'
          split at h
          · cases h
          · have := ih r' (i + 2) e (by simp at hr; omega) h
            refine ⟨by omega, by simp; omega, this.2.2.1, ?_⟩
            have h4 := this.2.2.2
            rw [show e - i = (e - (i + 2)) + 1 + 1 by omega]
            simpa using h4
      split at h
      · split at h
        · cases h
        · rename_i hc hi
          injection h with h
          subst h
          refine ⟨Nat.le_refl _, by simp, hi, ?_⟩
          simpa using hc
      · have := ih r (i + 1) e (by simp at hr; omega) h
        refine ⟨by omega, by simp; omega, this.2.2.1, ?_⟩
        have h4 := this.2.2.2
        rw [show e - i = (e - (i + 1)) + 1 by omega]
        simpa using h4

/-- the runes between brackets: each as a text, and whether a backslash stood ahead of it -/
def litsP : List (List UInt8) → List (List UInt8 × Bool)
  | [] => []
  | [x] => if x = [92] then [] else [(x, false)]
  | x :: y :: l => if x = [92] then (y, true) :: litsP l else (x, false) :: litsP (y :: l)
/-- texts of bytes in their order -/
def leT (a b : List UInt8) : Bool := !Op.bytesLess b a
def holdL : List (List UInt8 × Bool) → List UInt8 → Bool
  | [], _ => false
  | [x], r => x.1 == r
  | [x, y], r => x.1 == r || y.1 == r
  | x :: y :: z :: l, r => if y = ([45], false) then (leT x.1 r && leT r z.1) || holdL l r else x.1 == r || holdL (y :: z :: l) r
/-- what stands between the brackets holds the rune -/
def holdsP (inner : List UInt8) (r : List UInt8) : Bool :=
  if inner.head? = some 33 then !holdL (litsP (runesP (inner.drop 1))) r else holdL (litsP (runesP inner)) r
/-- an element at the beginning of a part: does it take the rune? and how long is it -/
def oneP (p : List UInt8) (r : List UInt8) : Bool × Nat :=
  match p with
  | [] => (false, 0)
  | c :: q => if c = 63 then (true, 1) else if c = 92 then (runeT q == r, 1 + runeW q)
    else if c = 91 then (match closeP (c :: q) with
      | some e => (holdsP (((c :: q).take e).drop 1) r, e + 1)
      | none => (false, 1)) else (runeT (c :: q) == r, runeW (c :: q))
theorem oneP_width (p r r' : List UInt8) : (oneP p r).2 = (oneP p r').2 := by
  unfold oneP
  cases p with
  | nil => rfl
  | cons c q =>
    simp only
    split
    · rfl
    split
    · rfl
    split
    · cases closeP (c :: q) <;> rfl
    · rfl
/-- the elements of a part -/
def toksF : Nat → List UInt8 → List (Option (List UInt8 → Bool))
  | 0, _ => []
  | _, [] => []
  | f + 1, c :: p => if c = 42 then none :: toksF f p else some (fun r => (oneP (c :: p) r).1) :: toksF f ((c :: p).drop (max 1 (oneP (c :: p) []).2))
def toksP (p : List UInt8) : List (Option (List UInt8 → Bool)) := toksF p.length p
theorem toksF_fuel : ∀ (f g : Nat) (l : List UInt8), l.length ≤ f → l.length ≤ g → toksF f l = toksF g l := by
  intro f
  induction f with
  | zero =>
    intro g l h1 h2
    have : l = [] := List.eq_nil_of_length_eq_zero (by omega)
    subst this
    cases g <;> rfl
  | succ f ih =>
    intro g l h1 h2
    cases l with
    | nil => cases g <;> rfl
    | cons c l =>
      obtain ⟨g', rfl⟩ : ∃ g', g = g' + 1 := ⟨g - 1, by simp at h2; omega⟩
      unfold toksF
      split
      · rw [ih g' l (by simp at h1; omega) (by simp at h2; omega)]
      · rw [ih g' _ (by simp at h1 ⊢; omega) (by simp at h2 ⊢; omega)]
theorem toksP_nil : toksP [] = [] := rfl
theorem toksF_succ (f : Nat) (c : UInt8) (p : List UInt8) : toksF (f + 1) (c :: p) = if c = 42 then none :: toksF f p else some (fun r => (oneP (c :: p) r).1) :: toksF f ((c :: p).drop (max 1 (oneP (c :: p) []).2)) := rfl
theorem toksP_star (p : List UInt8) : toksP (42 :: p) = none :: toksP p := by
  show toksF (p.length + 1) (42 :: p) = _
  rw [toksF_succ, if_pos rfl]
  rfl
theorem toksP_one {c : UInt8} {p : List UInt8} (hc : c ≠ 42) (hw : 1 ≤ (oneP (c :: p) []).2) : toksP (c :: p) = some (fun r => (oneP (c :: p) r).1) :: toksP ((c :: p).drop (oneP (c :: p) []).2) := by
  show toksF (p.length + 1) (c :: p) = _ :: toksF _ _
  rw [toksF_succ, if_neg hc, show max 1 (oneP (c :: p) []).2 = (oneP (c :: p) []).2 by omega]
  rw [toksF_fuel p.length _ _ (by simp; omega) (Nat.le_refl _)]
/-- does a part match a name? -/
def partP (p n : List UInt8) : Bool := matchT (toksP p) (runesP n)
/-- do parts match names? '**' is any number of names -/
def partsTok (p : List UInt8) : Option (List UInt8 → Bool) := if p = [42, 42] then none else some (partP p)
def partsP (l n : List (List UInt8)) : Bool := matchT (l.map partsTok) n
end Go.Proofs.YtoifnnhbejofjaaDoor.Plain

/-! part 3 -/
namespace Go.Proofs.YtoifnnhbejofjaaDoor.Plain
open Go.Lib

/-- a text that is one rune -/
def IsRune (t : List UInt8) : Prop := t ≠ [] ∧ runeW t = t.length
def valR (t : List UInt8) : Nat := (decodeL t).1
theorem rune_dec {t : List UInt8} (h : IsRune t) : decodeN t.length (t.getD 0 0).toNat (t.getD 1 0).toNat (t.getD 2 0).toNat (t.getD 3 0).toNat = (valR t, t.length) := by
  obtain ⟨hne, hw⟩ := h
  have hl : 0 < t.length := List.length_pos_iff.2 hne
  have h2 : (decodeL t).2 = t.length := by
    unfold runeW at hw
    split at hw
    · omega
    · exact hw
  rw [← decodeL_N]
  unfold valR
  rw [← h2]
/-- the bytes and the number of a rune -/
inductive Form : List UInt8 → Nat → Prop
  | one (a : UInt8) (h : a.toNat < 128) : Form [a] a.toNat
  | two (a b : UInt8) (v : Nat) (ha : a.toNat / 32 = 6) (hb : b.toNat / 64 = 2) (hv : v = a.toNat % 32 * 64 + b.toNat % 64) (hl : 128 ≤ v) : Form [a, b] v
  | three (a b c : UInt8) (v : Nat) (ha : a.toNat / 16 = 14) (hb : b.toNat / 64 = 2) (hc : c.toNat / 64 = 2) (hv : v = a.toNat % 16 * 4096 + b.toNat % 64 * 64 + c.toNat % 64) (hl : 2048 ≤ v) : Form [a, b, c] v
  | four (a b c d : UInt8) (v : Nat) (ha : a.toNat / 8 = 30) (hb : b.toNat / 64 = 2) (hc : c.toNat / 64 = 2) (hd : d.toNat / 64 = 2) (hv : v = a.toNat % 8 * 262144 + b.toNat % 64 * 4096 + c.toNat % 64 * 64 + d.toNat % 64) (hl : 65536 ≤ v) : Form [a, b, c, d] v
set_option maxRecDepth 10000 in
set_option maxHeartbeats 1000000 in
theorem rune_form {t : List UInt8} (h : IsRune t) : Form t (valR t) := by
  have hd := rune_dec h
  have hne := h.1
  have hok : ¬ (valR t = 65533 ∧ t.length = 1) := by
    rintro ⟨h1, h2⟩
    have h3 := h.2
    unfold runeW at h3
    have h4 : (decodeL t).2 = t.length := by rw [decodeL_N, hd]
    rw [if_pos ⟨h1, by rw [h4]; exact h2⟩] at h3
    omega
  unfold decodeN at hd
  have hle : t.length ≤ 4 := by
    repeat' split at hd
    all_goals (injection hd with h1 h2; omega)
  match t, hne, hle with
  | [a], _, _ =>
    simp only [List.length_singleton, and_true] at hok
    simp only [List.length_singleton, List.getD_cons_zero] at hd
    repeat' split at hd
    all_goals (injection hd with h1 h2)
    all_goals first | (rw [← h1]; exact .one a (by assumption)) | omega
  | [a, b], _, _ =>
    simp only [List.length_cons, List.length_nil, List.getD_cons_zero, List.getD_cons_succ] at hd
    repeat' split at hd
    all_goals (injection hd with h1 h2)
    all_goals first | omega | (rw [← h1]; exact .two a b _ (by omega) (by omega) rfl (by omega))
  | [a, b, c], _, _ =>
    simp only [List.length_cons, List.length_nil, List.getD_cons_zero, List.getD_cons_succ] at hd
    repeat' split at hd
    all_goals (injection hd with h1 h2)
    all_goals first | omega | (rw [← h1]; exact .three a b c _ (by omega) (by omega) (by omega) rfl (by omega))
  | [a, b, c, d], _, _ =>
    simp only [List.length_cons, List.length_nil, List.getD_cons_zero, List.getD_cons_succ] at hd
    repeat' split at hd
    all_goals (injection hd with h1 h2)
    all_goals first | omega | (rw [← h1]; exact .four a b c d _ (by omega) (by omega) (by omega) (by omega) rfl (by omega))
theorem less_nat {a b : UInt8} : (a < b) ↔ a.toNat < b.toNat := UInt8.lt_iff_toNat_lt
set_option maxHeartbeats 2000000 in
theorem form_less {s t : List UInt8} {v u : Nat} (hs : Form s v) (ht : Form t u) : Op.bytesLess s t = decide (v < u) := by
  rw [Bool.eq_iff_iff, decide_eq_true_iff]
  cases hs <;> cases ht
  all_goals
    simp only [Op.bytesLess, Bool.or_eq_true, Bool.and_eq_true, decide_eq_true_eq, beq_iff_eq, less_nat, ← UInt8.toNat_inj, Bool.false_eq_true, and_false, or_false, and_true] <;> omega
theorem form_eq {s t : List UInt8} {v u : Nat} (hs : Form s v) (ht : Form t u) (h : v = u) : s = t := by
  cases hs <;> cases ht
  all_goals first
    | (exfalso; omega)
    | (simp only [List.cons.injEq, and_true, ← UInt8.toNat_inj] <;> omega)
theorem rune_less {s t : List UInt8} (hs : IsRune s) (ht : IsRune t) : Op.bytesLess s t = decide (valR s < valR t) := form_less (rune_form hs) (rune_form ht)
theorem rune_same {s t : List UInt8} (hs : IsRune s) (ht : IsRune t) : (s == t) = (valR s == valR t) := by
  rw [Bool.eq_iff_iff, beq_iff_eq, beq_iff_eq]
  exact ⟨fun h => by rw [h], fun h => form_eq (rune_form hs) (rune_form ht) h⟩
end Go.Proofs.YtoifnnhbejofjaaDoor.Plain

/-! part 4 -/
namespace Go.Proofs.YtoifnnhbejofjaaDoor.Plain
open Go.Lib

set_option maxRecDepth 10000 in
set_option maxHeartbeats 1000000 in
theorem decodeN_cut {m b0 b1 b2 b3 v k : Nat} (h : decodeN m b0 b1 b2 b3 = (v, k)) (hok : ¬ (v = 65533 ∧ k = 1)) {c1 c2 c3 : Nat} (h1 : 1 < k → c1 = b1) (h2 : 2 < k → c2 = b2) (h3 : 3 < k → c3 = b3) : decodeN k b0 c1 c2 c3 = (v, k) := by
  unfold decodeN at h
  repeat' split at h
  all_goals (injection h with e1 e2; subst e1 e2)
  · rename_i q; unfold decodeN; rw [if_pos q]
  · rename_i q0 q1 q2
    obtain rfl := h1 (by omega)
    unfold decodeN
    rw [if_neg q0, if_pos ⟨q1.1, by omega, q1.2.2⟩, if_pos q2]
  · exact absurd ⟨rfl, rfl⟩ hok
  · rename_i q0 q1 q2 q3
    obtain rfl := h1 (by omega)
    obtain rfl := h2 (by omega)
    unfold decodeN
    rw [if_neg q0, if_neg (by omega), if_pos ⟨q2.1, ⟨by omega, q2.2.1.2⟩, by omega, q2.2.2.2⟩, if_pos q3]
  · exact absurd ⟨rfl, rfl⟩ hok
  · rename_i q0 q1 q2 q3 q4
    obtain rfl := h1 (by omega)
    obtain rfl := h2 (by omega)
    obtain rfl := h3 (by omega)
    unfold decodeN
    rw [if_neg q0, if_neg (by omega), if_neg (by omega), if_pos ⟨q3.1, ⟨by omega, q3.2.1.2⟩, ⟨by omega, q3.2.2.1.2⟩, by omega, q3.2.2.2.2⟩, if_pos q4]
  · exact absurd ⟨rfl, rfl⟩ hok
  · exact absurd ⟨rfl, rfl⟩ hok
theorem runeW_pos {l : List UInt8} (h : 1 ≤ runeW l) : (decodeL l).2 = runeW l ∧ ¬ ((decodeL l).1 = 65533 ∧ (decodeL l).2 = 1) := by
  unfold runeW at h ⊢
  split at h
  · omega
  · rename_i q; rw [if_neg q]; exact ⟨rfl, q⟩
/-- the rune at a text's beginning is one -/
theorem runeT_rune {l : List UInt8} (hne : l ≠ []) (h : 1 ≤ runeW l) : IsRune (runeT l) ∧ valR (runeT l) = (decodeL l).1 ∧ (runeT l).length = runeW l := by
  have hl : 0 < l.length := List.length_pos_iff.2 hne
  have hle : runeW l ≤ l.length := by have := runeW_le l 0 hl; simpa using this
  have hlen : (runeT l).length = runeW l := by unfold runeT; simp; omega
  obtain ⟨e2, hok⟩ := runeW_pos h
  have hg : ∀ i, i < runeW l → (runeT l).getD i 0 = l.getD i 0 := fun i hi => by
    unfold runeT
    rw [List.getD_eq_getElem?_getD, List.getD_eq_getElem?_getD, List.getElem?_take_of_lt hi]
  have hd : decodeN l.length (l.getD 0 0).toNat (l.getD 1 0).toNat (l.getD 2 0).toNat (l.getD 3 0).toNat = ((decodeL l).1, runeW l) := by
    rw [← decodeL_N, ← e2]
  have hc := decodeN_cut hd (by rw [← e2]; exact hok) (c1 := ((runeT l).getD 1 0).toNat) (c2 := ((runeT l).getD 2 0).toNat) (c3 := ((runeT l).getD 3 0).toNat) (fun q => by rw [hg 1 q]) (fun q => by rw [hg 2 q]) (fun q => by rw [hg 3 q])
  have hd2 : decodeL (runeT l) = ((decodeL l).1, runeW l) := by
    rw [decodeL_N, hlen, hg 0 (by omega)]
    exact hc
  refine ⟨⟨fun e => by rw [e] at hlen; simp at hlen; omega, ?_⟩, by unfold valR; rw [hd2], hlen⟩
  rw [hlen]
  have hu : runeW (runeT l) = if (decodeL (runeT l)).1 = 65533 ∧ (decodeL (runeT l)).2 = 1 then 0 else (decodeL (runeT l)).2 := rfl
  rw [hu, hd2]
  rw [if_neg (by rw [← e2]; exact hok)]
theorem valid_next {l : List UInt8} (hne : l ≠ []) (hv : validD l = true) : 1 ≤ runeW l ∧ validD (l.drop (runeW l)) = true := by
  have hl : 0 < l.length := List.length_pos_iff.2 hne
  have h := validD_rune l 0 hl
  simp only [List.drop_zero, Nat.zero_add] at h
  rw [hv] at h
  split at h
  · cases h
  · exact ⟨by omega, h.symm⟩
/-- all runes of a valid text are runes, and they are the text -/
theorem runes_valid : ∀ (n : Nat) (l : List UInt8), l.length ≤ n → validD l = true → (∀ t ∈ runesP l, IsRune t) ∧ (runesP l).flatten = l := by
  intro n
  induction n with
  | zero =>
    intro l hl _
    have : l = [] := List.eq_nil_of_length_eq_zero (by omega)
    subst this
    exact ⟨fun t ht => (by cases ht), rfl⟩
  | succ n ih =>
    intro l hl hv
    by_cases hne : l = []
    · subst hne; exact ⟨fun t ht => (by cases ht), rfl⟩
    · obtain ⟨hw, hv2⟩ := valid_next hne hv
      obtain ⟨h1, h2⟩ := ih (l.drop (runeW l)) (by simp; omega) hv2
      rw [runesP_step hne hw]
      refine ⟨fun t ht => ?_, ?_⟩
      · rcases List.mem_cons.1 ht with rfl | ht
        · exact (runeT_rune hne hw).1
        · exact h1 t ht
      · rw [List.flatten_cons, h2]
        unfold runeT
        exact List.take_append_drop _ _
end Go.Proofs.YtoifnnhbejofjaaDoor.Plain

/-! part 5 -/
namespace Go.Proofs.YtoifnnhbejofjaaDoor.Plain
open Go.Lib

/-- the place of the first byte that is part of no rune -/
def badF : Nat → Nat → List UInt8 → Option Nat
  | 0, _, _ => none
  | _, _, [] => none
  | f + 1, k, c :: l => if runeW (c :: l) = 0 then some k else badF f (k + runeW (c :: l)) ((c :: l).drop (runeW (c :: l)))
def badP (l : List UInt8) : Option Nat := badF l.length 0 l
theorem badF_valid : ∀ (f k : Nat) (l : List UInt8), l.length ≤ f → (badF f k l = none ↔ validD l = true) := by
  intro f
  induction f with
  | zero =>
    intro k l hl
    have : l = [] := List.eq_nil_of_length_eq_zero (by omega)
    subst this
    exact ⟨fun _ => rfl, fun _ => rfl⟩
  | succ f ih =>
    intro k l hl
    cases l with
    | nil => exact ⟨fun _ => rfl, fun _ => rfl⟩
    | cons c l =>
      have h := validD_rune (c :: l) 0 (by simp)
      simp only [List.drop_zero, Nat.zero_add] at h
      show (if runeW (c :: l) = 0 then some k else badF f (k + runeW (c :: l)) ((c :: l).drop (runeW (c :: l)))) = none ↔ _
      rw [h]
      split
      · simp
      · exact ih _ _ (by simp at hl ⊢; omega)
theorem badP_valid (l : List UInt8) : badP l = none ↔ validD l = true := badF_valid _ _ _ (Nat.le_refl _)
/-- from place k on; has the part at hand begun? -/
def loopC : Nat → Nat → Bool → List UInt8 → Nat × Nat
  | 0, _, _, _ => (0, 0)
  | _, _, _, [] => (0, 0)
  | f + 1, k, begun, c :: r =>
    if c = 47 then (if begun = false ∨ r = [] then (k, 20) else loopC f (k + 1) false r)
    else if c = 92 then (match r with
      | [] => (k, 20)
      | d :: r' => if d = 47 then (k, 20) else loopC f (k + 2) true r')
    else if c = 91 then (match closeP (c :: r) with
      | none => (k, 20)
      | some e => loopC f (k + e + 1) true ((c :: r).drop (e + 1)))
    else loopC f (k + 1) true r
def checkP (maxPath : Nat) (s : List UInt8) : Nat × Nat :=
  if s = [] ∨ maxPath < s.length then (s.length, 20) else match badP s with
    | some k => (k, 20)
    | none => loopC s.length 0 false s
theorem loopC_fuel : ∀ (f g k : Nat) (b : Bool) (l : List UInt8), l.length ≤ f → l.length ≤ g → loopC f k b l = loopC g k b l := by
  intro f
  induction f with
  | zero =>
    intro g k b l h1 h2
    have : l = [] := List.eq_nil_of_length_eq_zero (by omega)
    subst this
    cases g <;> rfl
  | succ f ih =>
    intro g k b l h1 h2
    cases l with
    | nil => cases g <;> rfl
    | cons c r =>
      obtain ⟨g', rfl⟩ : ∃ g', g = g' + 1 := ⟨g - 1, by simp at h2; omega⟩
      simp only [List.length_cons] at h1 h2
      unfold loopC
      split
      · split
        · rfl
        · exact ih _ _ _ _ (by omega) (by omega)
      split
      · cases r with
        | nil => rfl
        | cons d r' =>
          simp only [List.length_cons] at h1 h2
          simp only
          split
          · rfl
          · exact ih _ _ _ _ (by omega) (by omega)
      split
      · cases closeP (c :: r) with
        | none => rfl
        | some e => exact ih _ _ _ _ (by simp; omega) (by simp; omega)
      · exact ih _ _ _ _ (by omega) (by omega)
end Go.Proofs.YtoifnnhbejofjaaDoor.Plain

/-! part 6 -/
namespace Go.Proofs.YtoifnnhbejofjaaDoor.Plain
open Go.Lib

/-- the bytes of a rune behind its first one -/
theorem rune_tail {l : List UInt8} (hne : l ≠ []) (h : 1 ≤ runeW l) {i : Nat} (h1 : 1 ≤ i) (h2 : i < runeW l) : 128 ≤ (l.getD i 0).toNat := by
  obtain ⟨hr, hv, hlen⟩ := runeT_rune hne h
  have hf := rune_form hr
  have hg : (runeT l).getD i 0 = l.getD i 0 := by
    unfold runeT
    rw [List.getD_eq_getElem?_getD, List.getD_eq_getElem?_getD, List.getElem?_take_of_lt h2]
  rw [← hg]
  rw [← hlen] at h2
  generalize runeT l = t at *
  generalize valR t = v at *
  cases hf with
  | one a _ => simp at h2; omega
  | two a b _ _ hb _ _ =>
    simp at h2
    obtain rfl : i = 1 := by omega
    simp; omega
  | three a b c _ _ hb hc _ _ =>
    simp at h2
    rcases (show i = 1 ∨ i = 2 by omega) with rfl | rfl
    · simp; omega
    · simp; omega
  | four a b c d _ _ hb hc hd _ _ =>
    simp at h2
    rcases (show i = 1 ∨ i = 2 ∨ i = 3 by omega) with rfl | rfl | rfl
    · simp; omega
    · simp; omega
    · simp; omega
/-- at a byte of ASCII a valid text is cut into valid texts -/
theorem valid_at : ∀ (n : Nat) (l : List UInt8) (e : Nat), l.length ≤ n → validD l = true → e < l.length → (l.getD e 0).toNat < 128 → validD (l.drop e) = true := by
  intro n
  induction n with
  | zero => intro l e h1 _ h2; omega
  | succ n ih =>
    intro l e h1 hv h2 ha
    by_cases h0 : e = 0
    · subst h0; simpa using hv
    · have hne : l ≠ [] := fun h => by rw [h] at h2; simp at h2
      obtain ⟨hw, hv2⟩ := valid_next hne hv
      have hle : runeW l ≤ e := by
        rcases Nat.lt_or_ge e (runeW l) with h | h
        · have := rune_tail hne hw (by omega) h; omega
        · exact h
      have := ih (l.drop (runeW l)) (e - runeW l) (by simp; omega) hv2 (by simp; omega) (by
        rw [List.getD_eq_getElem?_getD, List.getElem?_drop, show runeW l + (e - runeW l) = e by omega, ← List.getD_eq_getElem?_getD]; exact ha)
      rw [List.drop_drop, show runeW l + (e - runeW l) = e by omega] at this
      exact this
/-- a part whose backslashes and brackets are as they must be -/
def wfF : Nat → List UInt8 → Bool
  | 0, _ => true
  | _, [] => true
  | f + 1, c :: r => if c = 92 then (match r with
      | [] => false
      | _ :: r' => wfF f r') else if c = 91 then (match closeP (c :: r) with
      | none => false
      | some e => wfF f ((c :: r).drop (e + 1))) else wfF f r
def wfP (p : List UInt8) : Bool := wfF p.length p
theorem wfF_fuel : ∀ (f g : Nat) (l : List UInt8), l.length ≤ f → l.length ≤ g → wfF f l = wfF g l := by
  intro f
  induction f with
  | zero =>
    intro g l h1 h2
    have : l = [] := List.eq_nil_of_length_eq_zero (by omega)
    subst this
    cases g <;> rfl
  | succ f ih =>
    intro g l h1 h2
    cases l with
    | nil => cases g <;> rfl
    | cons c r =>
      obtain ⟨g', rfl⟩ : ∃ g', g = g' + 1 := ⟨g - 1, by simp at h2; omega⟩
      simp only [List.length_cons] at h1 h2
      unfold wfF
      split
      · cases r with
        | nil => rfl
        | cons d r' => simp only [List.length_cons] at h1 h2; exact ih _ _ (by omega) (by omega)
      split
      · cases closeP (c :: r) with
        | none => rfl
        | some e => exact ih _ _ (by simp; omega) (by simp; omega)
      · exact ih _ _ (by omega) (by omega)
theorem wfP_back {d : UInt8} {r : List UInt8} : wfP (92 :: d :: r) = wfP r := by
  show wfF (r.length + 1 + 1) (92 :: d :: r) = _
  have : wfF (r.length + 1 + 1) (92 :: d :: r) = wfF (r.length + 1) r := rfl
  rw [this]
  exact wfF_fuel _ _ _ (by omega) (Nat.le_refl _)
theorem wfP_back_nil : wfP [92] = false := rfl
theorem wfP_plain {c : UInt8} {r : List UInt8} (h1 : c ≠ 92) (h2 : c ≠ 91) : wfP (c :: r) = wfP r := by
  show wfF (r.length + 1) (c :: r) = _
  have : wfF (r.length + 1) (c :: r) = if c = 92 then (match r with
      | [] => false
      | _ :: r' => wfF r.length r') else if c = 91 then (match closeP (c :: r) with
      | none => false
      | some e => wfF r.length ((c :: r).drop (e + 1))) else wfF r.length r := rfl
  rw [this, if_neg h1, if_neg h2]
  rfl
theorem wfP_set {r : List UInt8} (h : wfP (91 :: r) = true) : ∃ e, closeP (91 :: r) = some e ∧ wfP ((91 :: r).drop (e + 1)) = true := by
  have h' : wfF (r.length + 1) (91 :: r) = true := h
  have : wfF (r.length + 1) (91 :: r) = (match closeP (91 :: r) with
      | none => false
      | some e => wfF r.length ((91 :: r).drop (e + 1))) := rfl
  rw [this] at h'
  cases hc : closeP (91 :: r) with
  | none => rw [hc] at h'; cases h'
  | some e =>
    rw [hc] at h'
    refine ⟨e, rfl, ?_⟩
    rw [← h']
    exact wfF_fuel _ _ _ (Nat.le_refl _) (by simp)
theorem wfP_skip : ∀ (k : Nat) (l : List UInt8), (∀ i, i < k → 128 ≤ (l.getD i 0).toNat) → k ≤ l.length → wfP l = wfP (l.drop k) := by
  intro k
  induction k with
  | zero => intro l _ _; simp
  | succ k ih =>
    intro l h hk
    cases l with
    | nil => simp at hk
    | cons c r =>
      have h0 := h 0 (by omega)
      simp at h0
      rw [wfP_plain (fun e => by subst e; simp at h0) (fun e => by subst e; simp at h0), ih r (fun i hi => by have := h (i + 1) (by omega); simpa using this) (by simpa using hk)]
      rfl
/-- behind a rune that is an element of its own -/
theorem wfP_rune {l : List UInt8} (hne : l ≠ []) (h : 1 ≤ runeW l) (hc : ∀ c r, l = c :: r → c ≠ 92 ∧ c ≠ 91) (hw : wfP l = true) : wfP (l.drop (runeW l)) = true := by
  have hl : 0 < l.length := List.length_pos_iff.2 hne
  have hle : runeW l ≤ l.length := by have := runeW_le l 0 hl; simpa using this
  cases l with
  | nil => exact absurd rfl hne
  | cons c r =>
    obtain ⟨h1, h2⟩ := hc c r rfl
    rw [wfP_plain h1 h2] at hw
    have := wfP_skip (runeW (c :: r) - 1) r (fun i hi => by
      have := rune_tail hne h (i := i + 1) (by omega) (by omega)
      simpa using this) (by simp at hle; omega)
    rw [hw] at this
    rw [show runeW (c :: r) = (runeW (c :: r) - 1) + 1 by omega, List.drop_succ_cons]
    exact this.symm
/-- an element of a checked part has a width, and what is behind it is as it must be -/
theorem wf_next {c : UInt8} {r : List UInt8} (hv : validD (c :: r) = true) (hw : wfP (c :: r) = true) (hc : c ≠ 42) :
    1 ≤ (oneP (c :: r) []).2 ∧ validD ((c :: r).drop (oneP (c :: r) []).2) = true ∧ wfP ((c :: r).drop (oneP (c :: r) []).2) = true := by
  unfold oneP
  simp only
  by_cases h63 : c = 63
  · subst h63
    rw [if_pos rfl]
    rw [wfP_plain (by decide) (by decide)] at hw
    rw [validD_cons _ _ (by decide)] at hv
    exact ⟨Nat.le_refl _, hv, hw⟩
  rw [if_neg h63]
  by_cases h92 : c = 92
  · subst h92
    rw [if_pos rfl]
    rw [validD_cons _ _ (by decide)] at hv
    cases r with
    | nil => rw [wfP_back_nil] at hw; cases hw
    | cons d r' =>
      rw [wfP_back] at hw
      obtain ⟨hr, hv2⟩ := valid_next (l := d :: r') (by simp) hv
      refine ⟨by omega, ?_, ?_⟩
      · simp only
        rw [Nat.add_comm, List.drop_succ_cons]
        exact hv2
      · simp only
        have hle : runeW (d :: r') ≤ (d :: r').length := by have := runeW_le (d :: r') 0 (by simp); simpa using this
        have := wfP_skip (runeW (d :: r') - 1) r' (fun i hi => by
          have := rune_tail (l := d :: r') (by simp) hr (i := i + 1) (by omega) (by omega)
          simpa using this) (by simp at hle; omega)
        rw [hw] at this
        rw [show 1 + runeW (d :: r') = (runeW (d :: r') - 1) + 1 + 1 by omega, List.drop_succ_cons, List.drop_succ_cons]
        exact this.symm
  rw [if_neg h92]
  by_cases h91 : c = 91
  · subst h91
    rw [if_pos rfl]
    obtain ⟨e, he, hw2⟩ := wfP_set hw
    rw [he]
    refine ⟨by simp, ?_, hw2⟩
    simp only
    have hcl : setFrom (91 :: r) ≤ e ∧ e < setFrom (91 :: r) + ((91 :: r).drop (setFrom (91 :: r))).length ∧ e ≠ setFrom (91 :: r) ∧ ((91 :: r).drop (setFrom (91 :: r))).getD (e - setFrom (91 :: r)) 0 = 93 := closeF_le _ _ _ _ _ (Nat.le_refl _) he
    have hf : 1 ≤ setFrom (91 :: r) := by unfold setFrom; split <;> omega
    obtain ⟨a1, a2, a3, a4⟩ := hcl
    have hel : e < (91 :: r).length := by simp at a2 ⊢; omega
    have hb : (91 :: r).getD e 0 = 93 := by
      rw [List.getD_eq_getElem?_getD, List.getElem?_drop, show setFrom (91 :: r) + (e - setFrom (91 :: r)) = e by omega, ← List.getD_eq_getElem?_getD] at a4
      exact a4
    have hd := valid_at _ _ e (Nat.le_refl _) hv hel (by rw [hb]; decide)
    have hc2 : (91 :: r).drop e = 93 :: (91 :: r).drop (e + 1) := by
      rw [List.drop_eq_getElem_cons hel]
      rw [List.getD_eq_getElem?_getD, List.getElem?_eq_getElem hel] at hb
      simp only [Option.getD_some] at hb
      rw [hb]
    rw [hc2, validD_cons _ _ (by decide)] at hd
    exact hd
  rw [if_neg h91]
  obtain ⟨hr, hv2⟩ := valid_next (l := c :: r) (by simp) hv
  exact ⟨hr, hv2, wfP_rune (by simp) hr (fun c' r' e => by injection e with e1 e2; rw [← e1]; exact ⟨h92, h91⟩) hw⟩
end Go.Proofs.YtoifnnhbejofjaaDoor.Plain

/-! part 7 -/
namespace Go.Proofs.YtoifnnhbejofjaaDoor.Plain
open Go.Lib

theorem closeF_slash (from' i : Nat) (r : List UInt8) : closeF from' i (47 :: r) = none := by unfold closeF; rw [if_pos rfl]
theorem closeF_cut (from' : Nat) (r : List UInt8) : ∀ (n : Nat) (q : List UInt8) (i e : Nat), q.length ≤ n → 47 ∉ q → closeF from' i (q ++ 47 :: r) = some e → closeF from' i q = some e := by
  intro n
  induction n with
  | zero =>
    intro q i e hq _ h
    have : q = [] := List.eq_nil_of_length_eq_zero (by omega)
    subst this
    rw [List.nil_append, closeF_slash] at h; cases h
  | succ n ih =>
    intro q i e hq h47 h
    cases q with
    | nil => rw [List.nil_append, closeF_slash] at h; cases h
    | cons c q =>
      have hc : c ≠ 47 := fun e => h47 (by simp [e])
      have hq47 : 47 ∉ q := fun h => h47 (by simp [h])
      rw [List.cons_append] at h
      unfold closeF at h ⊢
      rw [if_neg hc] at h ⊢
      split at h
      · rename_i h92
        rw [if_pos h92]
        cases q with
        | nil => simp at h
        | cons d q' =>
          rw [List.cons_append] at h
          simp only at h ⊢
          have hd : d ≠ 47 := fun e => hq47 (by simp [e])
          rw [if_neg hd] at h ⊢
          exact ih q' _ _ (by simp at hq; omega) (fun h => hq47 (by simp [h])) h
      · rename_i h92
        rw [if_neg h92]
        split at h
        · rename_i h93
          rw [if_pos h93]
          exact h
        · rename_i h93
          rw [if_neg h93]
          exact ih q _ _ (by simp at hq; omega) hq47 h
theorem closeP_cut {q r : List UInt8} {e : Nat} (h47 : 47 ∉ q) (h : closeP (91 :: (q ++ 47 :: r)) = some e) : closeP (91 :: q) = some e := by
  have hs : setFrom (91 :: (q ++ 47 :: r)) = setFrom (91 :: q) := by
    unfold setFrom
    cases q <;> simp
  unfold closeP at h ⊢
  rw [hs] at h
  have hd : (91 :: (q ++ 47 :: r)).drop (setFrom (91 :: q)) = (91 :: q).drop (setFrom (91 :: q)) ++ 47 :: r := by
    have hle : setFrom (91 :: q) ≤ (91 :: q).length := by
      unfold setFrom
      split
      · rename_i h
        cases q with
        | nil => simp at h
        | cons => simp
      · simp
    rw [← List.cons_append, List.drop_append_of_le_length hle]
  rw [hd] at h
  exact closeF_cut _ _ _ _ _ _ (Nat.le_refl _) (fun hm => h47 (by
    have := List.mem_of_mem_drop hm
    simpa using this)) h
/-- a part, and what stands behind the '/' -/
theorem loop_part : ∀ (n f k : Nat) (b : Bool) (p r : List UInt8), p.length ≤ n → (p ++ 47 :: r).length ≤ f → 47 ∉ p → (loopC f k b (p ++ 47 :: r)).2 = 0 → wfP p = true ∧ ∃ k' f', r.length ≤ f' ∧ (loopC f' k' false r).2 = 0 := by
  intro n
  induction n with
  | zero =>
    intro f k b p r hp hf _ h
    have : p = [] := List.eq_nil_of_length_eq_zero (by omega)
    subst this
    obtain ⟨f', rfl⟩ : ∃ f', f = f' + 1 := ⟨f - 1, by simp at hf; omega⟩
    refine ⟨rfl, k + 1, f', by simp at hf; omega, ?_⟩
    simp only [List.nil_append] at h
    unfold loopC at h
    rw [if_pos rfl] at h
    split at h
    · cases h
    · exact h
  | succ n ih =>
    intro f k b p r hp hf h47 h
    cases p with
    | nil => exact ih f k b [] r (by simp) hf h47 h
    | cons c q =>
      obtain ⟨f', rfl⟩ : ∃ f', f = f' + 1 := ⟨f - 1, by simp at hf; omega⟩
      have hc : c ≠ 47 := fun e => h47 (by simp [e])
      have hq47 : 47 ∉ q := fun h => h47 (by simp [h])
      rw [List.cons_append] at h hf
      unfold loopC at h
      rw [if_neg hc] at h
      split at h
      · rename_i h92
        subst h92
        cases q with
        | nil => simp at h
        | cons d q' =>
          rw [List.cons_append] at h
          simp only at h
          have hd : d ≠ 47 := fun e => hq47 (by simp [e])
          rw [if_neg hd] at h
          rw [wfP_back]
          exact ih f' _ _ q' r (by simp at hp; omega) (by simp at hf ⊢; omega) (fun h => hq47 (by simp [h])) h
      · rename_i h92
        split at h
        · rename_i h91
          subst h91
          cases hcl : closeP (91 :: (q ++ 47 :: r)) with
          | none => rw [hcl] at h; simp at h
          | some e =>
            rw [hcl] at h
            simp only at h
            have he := closeP_cut hq47 hcl
            have hlt : e + 1 ≤ (91 :: q).length := by
              have hb := closeF_le _ _ _ _ _ (Nat.le_refl _) he
              have := hb.2.1
              simp at this ⊢
              omega
            rw [← List.cons_append, List.drop_append_of_le_length hlt] at h
            have hi := ih f' _ _ ((91 :: q).drop (e + 1)) r (by simp at hp ⊢; omega) (by simp at hf ⊢; omega) (fun hm => h47 (List.mem_of_mem_drop hm)) h
            refine ⟨?_, hi.2⟩
            have e1 : wfP (91 :: q) = (match closeP (91 :: q) with
              | none => false
              | some e => wfF q.length ((91 :: q).drop (e + 1))) := rfl
            rw [e1, he]
            simp only
            rw [wfF_fuel q.length _ _ (by simp) (Nat.le_refl _)]
            exact hi.1
        · rename_i h91
          rw [wfP_plain h92 h91]
          exact ih f' _ _ q r (by simp at hp; omega) (by simp at hf ⊢; omega) hq47 h
/-- a last part -/
theorem loop_last : ∀ (n f k : Nat) (b : Bool) (p : List UInt8), p.length ≤ n → p.length ≤ f → 47 ∉ p → (loopC f k b p).2 = 0 → wfP p = true := by
  intro n
  induction n with
  | zero =>
    intro f k b p hp _ _ _
    have : p = [] := List.eq_nil_of_length_eq_zero (by omega)
    subst this
    rfl
  | succ n ih =>
    intro f k b p hp hf h47 h
    cases p with
    | nil => rfl
    | cons c q =>
      obtain ⟨f', rfl⟩ : ∃ f', f = f' + 1 := ⟨f - 1, by simp at hf; omega⟩
      have hc : c ≠ 47 := fun e => h47 (by simp [e])
      have hq47 : 47 ∉ q := fun h => h47 (by simp [h])
      unfold loopC at h
      rw [if_neg hc] at h
      split at h
      · rename_i h92
        subst h92
        cases q with
        | nil => simp at h
        | cons d q' =>
          simp only at h
          have hd : d ≠ 47 := fun e => hq47 (by simp [e])
          rw [if_neg hd] at h
          rw [wfP_back]
          exact ih f' _ _ q' (by simp at hp; omega) (by simp at hf ⊢; omega) (fun h => hq47 (by simp [h])) h
      · rename_i h92
        split at h
        · rename_i h91
          subst h91
          cases he : closeP (91 :: q) with
          | none => rw [he] at h; simp at h
          | some e =>
            rw [he] at h
            simp only at h
            have hi := ih f' _ _ ((91 :: q).drop (e + 1)) (by simp at hp ⊢; omega) (by simp at hf ⊢; omega) (fun hm => h47 (List.mem_of_mem_drop hm)) h
            have e1 : wfP (91 :: q) = (match closeP (91 :: q) with
              | none => false
              | some e => wfF q.length ((91 :: q).drop (e + 1))) := rfl
            rw [e1, he]
            simp only
            rw [wfF_fuel q.length _ _ (by simp) (Nat.le_refl _)]
            exact hi
        · rename_i h91
          rw [wfP_plain h92 h91]
          exact ih f' _ _ q (by simp at hp; omega) (by simp at hf ⊢; omega) hq47 h
end Go.Proofs.YtoifnnhbejofjaaDoor.Plain

/-! part 8 -/
namespace Go.Proofs.YtoifnnhbejofjaaDoor.Plain
open Go.Lib

theorem loop_parts : ∀ (n f k : Nat) (b : Bool) (s : List UInt8), s.length ≤ n → s.length ≤ f → (loopC f k b s).2 = 0 → ∀ x ∈ parts s, wfP x = true := by
  intro n
  induction n with
  | zero =>
    intro f k b s hn _ _ x hx
    have : s = [] := List.eq_nil_of_length_eq_zero (by omega)
    subst this
    simp [parts, cutAt] at hx
    subst hx; rfl
  | succ n ih =>
    intro f k b s hn hf h x hx
    by_cases h47 : 47 ∈ s
    · obtain ⟨p, r, rfl, hp⟩ := first_c (c := 47) s h47
      rw [parts_first _ _ hp] at hx
      obtain ⟨h1, k', f', hf', h2⟩ := loop_part p.length f k b p r (Nat.le_refl _) hf hp h
      rcases List.mem_cons.1 hx with rfl | hx
      · exact h1
      · exact ih f' k' false r (by simp at hn; omega) hf' h2 x hx
    · rw [parts_none _ h47] at hx
      simp at hx
      subst hx
      exact loop_last _ f k b x (Nat.le_refl _) hf h47 h
end Go.Proofs.YtoifnnhbejofjaaDoor.Plain

/-! part 9 -/
namespace Go.Proofs.YtoifnnhbejofjaaDoor.Plain
open Go.Lib

set_option maxRecDepth 10000 in
set_option maxHeartbeats 1000000 in
theorem decodeN_at {m b0 b1 b2 b3 v k : Nat} (h : decodeN m b0 b1 b2 b3 = (v, k)) (hok : ¬ (v = 65533 ∧ k = 1)) {c1 c2 c3 : Nat} (h1 : 1 < k → c1 = b1) (h2 : 2 < k → c2 = b2) (h3 : 3 < k → c3 = b3) {n : Nat} (hn : k ≤ n) : decodeN n b0 c1 c2 c3 = (v, k) := by
  unfold decodeN at h
  repeat' split at h
  all_goals (injection h with e1 e2; subst e1 e2)
  · rename_i q; unfold decodeN; rw [if_pos q]
  · rename_i q0 q1 q2
    obtain rfl := h1 (by omega)
    unfold decodeN
    rw [if_neg q0, if_pos ⟨q1.1, by omega, q1.2.2⟩, if_pos q2]
  · exact absurd ⟨rfl, rfl⟩ hok
  · rename_i q0 q1 q2 q3
    obtain rfl := h1 (by omega)
    obtain rfl := h2 (by omega)
    unfold decodeN
    rw [if_neg q0, if_neg (by omega), if_pos ⟨q2.1, ⟨by omega, q2.2.1.2⟩, by omega, q2.2.2.2⟩, if_pos q3]
  · exact absurd ⟨rfl, rfl⟩ hok
  · rename_i q0 q1 q2 q3 q4
    obtain rfl := h1 (by omega)
    obtain rfl := h2 (by omega)
    obtain rfl := h3 (by omega)
    unfold decodeN
    rw [if_neg q0, if_neg (by omega), if_neg (by omega), if_pos ⟨q3.1, ⟨by omega, q3.2.1.2⟩, ⟨by omega, q3.2.2.1.2⟩, by omega, q3.2.2.2.2⟩, if_pos q4]
  · exact absurd ⟨rfl, rfl⟩ hok
  · exact absurd ⟨rfl, rfl⟩ hok
theorem runeW_take {l : List UInt8} {e : Nat} (h : 1 ≤ runeW l) (he : runeW l ≤ e) (hel : e ≤ l.length) : runeW (l.take e) = runeW l := by
  obtain ⟨e2, hok⟩ := runeW_pos h
  have hg : ∀ i, i < e → (l.take e).getD i 0 = l.getD i 0 := fun i hi => by
    rw [List.getD_eq_getElem?_getD, List.getD_eq_getElem?_getD, List.getElem?_take_of_lt hi]
  have hd : decodeN l.length (l.getD 0 0).toNat (l.getD 1 0).toNat (l.getD 2 0).toNat (l.getD 3 0).toNat = ((decodeL l).1, runeW l) := by
    rw [← decodeL_N, ← e2]
  have hc := decodeN_at hd (by rw [← e2]; exact hok) (c1 := ((l.take e).getD 1 0).toNat) (c2 := ((l.take e).getD 2 0).toNat) (c3 := ((l.take e).getD 3 0).toNat) (fun q => by rw [hg 1 (by omega)]) (fun q => by rw [hg 2 (by omega)]) (fun q => by rw [hg 3 (by omega)]) (n := e) he
  have hd2 : decodeL (l.take e) = ((decodeL l).1, runeW l) := by
    rw [decodeL_N, show (l.take e).length = e by simp; omega, hg 0 (by omega)]
    exact hc
  have hu : runeW (l.take e) = if (decodeL (l.take e)).1 = 65533 ∧ (decodeL (l.take e)).2 = 1 then 0 else (decodeL (l.take e)).2 := rfl
  rw [hu, hd2]
  rw [if_neg (by rw [← e2]; exact hok)]
theorem valid_take : ∀ (n : Nat) (l : List UInt8) (e : Nat), l.length ≤ n → validD l = true → e < l.length → (l.getD e 0).toNat < 128 → validD (l.take e) = true := by
  intro n
  induction n with
  | zero => intro l e h1 _ h2; omega
  | succ n ih =>
    intro l e h1 hv h2 ha
    by_cases h0 : e = 0
    · subst h0; rw [List.take_zero]; rfl
    · have hne : l ≠ [] := fun h => by rw [h] at h2; simp at h2
      obtain ⟨hw, hv2⟩ := valid_next hne hv
      have hle : runeW l ≤ e := by
        rcases Nat.lt_or_ge e (runeW l) with h | h
        · have := rune_tail hne hw (by omega) h; omega
        · exact h
      have hi := ih (l.drop (runeW l)) (e - runeW l) (by simp; omega) hv2 (by simp; omega) (by
        rw [List.getD_eq_getElem?_getD, List.getElem?_drop, show runeW l + (e - runeW l) = e by omega, ← List.getD_eq_getElem?_getD]; exact ha)
      have hr := validD_rune (l.take e) 0 (by simp; omega)
      simp only [List.drop_zero, Nat.zero_add] at hr
      rw [hr, runeW_take hw hle (by omega), if_neg (by omega)]
      rw [List.drop_take]
      exact hi
end Go.Proofs.YtoifnnhbejofjaaDoor.Plain

/-! part 10 -/
namespace Go.Proofs.YtoifnnhbejofjaaDoor.Plain
open Go.Lib

/-- the literals, with the backslash at hand -/
def litsR : Bool → List (List UInt8) → List (List UInt8 × Bool)
  | _, [] => []
  | e, x :: l => if x = [92] ∧ e = false then litsR true l else (x, e) :: litsR false l
theorem litsP_R : ∀ (n : Nat) (l : List (List UInt8)), l.length ≤ n → litsP l = litsR false l := by
  intro n
  induction n with
  | zero =>
    intro l h
    have : l = [] := List.eq_nil_of_length_eq_zero (by omega)
    subst this; rfl
  | succ n ih =>
    intro l h
    match l, h with
    | [], _ => rfl
    | [x], _ =>
      unfold litsP litsR
      by_cases q : x = [92]
      · rw [if_pos q, if_pos ⟨q, rfl⟩]; rfl
      · rw [if_neg q, if_neg (fun c => q c.1)]; rfl
    | x :: y :: l, h =>
      unfold litsP litsR
      simp only [List.length_cons] at h
      by_cases q : x = [92]
      · rw [if_pos q, if_pos ⟨q, rfl⟩]
        unfold litsR
        rw [if_neg (fun c => by cases c.2), ih l (by omega)]
      · rw [if_neg q, if_neg (fun c => q c.1), ih (y :: l) (by simp; omega)]
theorem litsR_runes : ∀ (l : List (List UInt8)) (e : Bool), (∀ t ∈ l, IsRune t) → ∀ x ∈ litsR e l, IsRune x.1
  | [], e, _, x, hx => by cases hx
  | t :: l, e, h, x, hx => by
    unfold litsR at hx
    split at hx
    · exact litsR_runes l true (fun u hu => h u (by simp [hu])) x hx
    · rcases List.mem_cons.1 hx with rfl | hx
      · exact h t (by simp)
      · exact litsR_runes l false (fun u hu => h u (by simp [hu])) x hx
theorem litsR_length : ∀ (l : List (List UInt8)) (e : Bool), (litsR e l).length ≤ l.length
  | [], e => by simp [litsR]
  | t :: l, e => by
    unfold litsR
    split
    · have := litsR_length l true; simp; omega
    · have := litsR_length l false; simp; omega
/-- by numbers -/
def holdN : List (Nat × Bool) → Nat → Bool
  | [], _ => false
  | [x], r => x.1 == r
  | [x, y], r => x.1 == r || y.1 == r
  | x :: y :: z :: l, r => if y = (45, false) then (decide (x.1 ≤ r) && decide (r ≤ z.1)) || holdN l r else x.1 == r || holdN (y :: z :: l) r
def numL (l : List (List UInt8 × Bool)) : List (Nat × Bool) := l.map (fun x => (valR x.1, x.2))
theorem dash_rune : IsRune [45] ∧ valR [45] = 45 := by
  have h := runeT_rune (l := [45]) (by simp) (by decide)
  have h2 : runeT [45] = [45] := by decide
  rw [h2] at h
  exact ⟨h.1, by rw [h.2.1]; decide⟩
theorem leT_num {s t : List UInt8} (hs : IsRune s) (ht : IsRune t) : leT s t = decide (valR s ≤ valR t) := by
  unfold leT
  rw [rune_less ht hs, ← decide_not]
  congr 1
  rw [Nat.not_lt]
theorem hold_num : ∀ (n : Nat) (l : List (List UInt8 × Bool)) (t : List UInt8), l.length ≤ n → IsRune t → (∀ x ∈ l, IsRune x.1) → holdL l t = holdN (numL l) (valR t) := by
  intro n
  induction n with
  | zero =>
    intro l t h _ _
    have : l = [] := List.eq_nil_of_length_eq_zero (by omega)
    subst this; rfl
  | succ n ih =>
    intro l t h ht hl
    match l, h, hl with
    | [], _, _ => rfl
    | [x], _, hl => exact rune_same (hl x (by simp)) ht
    | [x, y], _, hl =>
      show (x.1 == t || y.1 == t) = (valR x.1 == valR t || valR y.1 == valR t)
      rw [rune_same (hl x (by simp)) ht, rune_same (hl y (by simp)) ht]
    | x :: y :: z :: l, h, hl =>
      have hx := hl x (by simp)
      have hy := hl y (by simp)
      have hz := hl z (by simp)
      simp only [List.length_cons] at h
      show (if y = ([45], false) then (leT x.1 t && leT t z.1) || holdL l t else x.1 == t || holdL (y :: z :: l) t) = (if (valR y.1, y.2) = (45, false) then (decide (valR x.1 ≤ valR t) && decide (valR t ≤ valR z.1)) || holdN (numL l) (valR t) else valR x.1 == valR t || holdN (numL (y :: z :: l)) (valR t))
      have hd : y = ([45], false) ↔ (valR y.1, y.2) = (45, false) := by
        obtain ⟨y1, y2⟩ := y
        simp only [Prod.mk.injEq]
        have h1 := rune_same hy dash_rune.1
        rw [dash_rune.2, Bool.eq_iff_iff, beq_iff_eq, beq_iff_eq] at h1
        simp only at h1
        rw [h1]
      by_cases q : y = ([45], false)
      · rw [if_pos q, if_pos (hd.1 q), leT_num hx ht, leT_num ht hz, ih l t (by omega) ht (fun u hu => hl u (by simp [hu]))]
      · rw [if_neg q, if_neg (fun c => q (hd.2 c)), rune_same hx ht, ih (y :: z :: l) t (by simp; omega) ht (fun u hu => hl u (by
          rcases List.mem_cons.1 hu with rfl | hu
          · simp
          · simp only [List.mem_cons] at hu ⊢; rcases hu with h | h <;> simp [h]))]
end Go.Proofs.YtoifnnhbejofjaaDoor.Plain

/-! part 11 -/
namespace Go.Proofs.YtoifnnhbejofjaaDoor.Plain
open Go.Lib

theorem getD_at (p : List UInt8) (c : UInt8) (r : List UInt8) : (p ++ c :: r).getD p.length 0 = c := by simp [List.getD]
theorem valid_cut {p r : List UInt8} {c : UInt8} (hc : c.toNat < 128) (hv : validD (p ++ c :: r) = true) : validD p = true ∧ validD r = true := by
  have hlt : p.length < (p ++ c :: r).length := by simp
  have h1 := valid_take _ _ p.length (Nat.le_refl _) hv hlt (by rw [getD_at]; exact hc)
  have h2 := valid_at _ _ p.length (Nat.le_refl _) hv hlt (by rw [getD_at]; exact hc)
  rw [List.take_left' rfl] at h1
  rw [List.drop_left' rfl, validD_cons _ _ hc] at h2
  exact ⟨h1, h2⟩
theorem valid_parts : ∀ (n : Nat) (s : List UInt8), s.length ≤ n → validD s = true → ∀ x ∈ parts s, validD x = true := by
  intro n
  induction n with
  | zero =>
    intro s hn hv x hx
    have : s = [] := List.eq_nil_of_length_eq_zero (by omega)
    subst this
    simp [parts, cutAt] at hx
    subst hx; exact hv
  | succ n ih =>
    intro s hn hv x hx
    by_cases h47 : 47 ∈ s
    · obtain ⟨p, r, rfl, hp⟩ := first_c (c := 47) s h47
      rw [parts_first _ _ hp] at hx
      obtain ⟨h1, h2⟩ := valid_cut (by decide) hv
      rcases List.mem_cons.1 hx with rfl | hx
      · exact h1
      · exact ih r (by simp at hn; omega) h2 x hx
    · rw [parts_none _ h47] at hx
      simp at hx
      subst hx
      exact hv
/-- what a text is that is a pattern -/
theorem check_ok {m : Nat} {s : List UInt8} (h : (checkP m s).2 = 0) : s ≠ [] ∧ s.length ≤ m ∧ validD s = true ∧ ∀ x ∈ parts s, validD x = true ∧ wfP x = true := by
  unfold checkP at h
  split at h
  · cases h
  · rename_i q
    cases hb : badP s with
    | some k => rw [hb] at h; cases h
    | none =>
      rw [hb] at h
      have hv := (badP_valid s).1 hb
      refine ⟨fun e => q (.inl e), by have : ¬ m < s.length := fun e => q (.inr e); omega, hv, fun x hx => ⟨valid_parts _ s (Nat.le_refl _) hv x hx, loop_parts _ _ _ _ s (Nat.le_refl _) (Nat.le_refl _) h x hx⟩⟩
/-- what stands between brackets -/
theorem inner_valid {r : List UInt8} {e : Nat} (hv : validD (91 :: r) = true) (he : closeP (91 :: r) = some e) :
    2 ≤ e ∧ e < (91 :: r).length ∧ validD (((91 :: r).take e).drop 1) = true ∧ (91 :: r).drop e = 93 :: (91 :: r).drop (e + 1) := by
  have hcl : setFrom (91 :: r) ≤ e ∧ e < setFrom (91 :: r) + ((91 :: r).drop (setFrom (91 :: r))).length ∧ e ≠ setFrom (91 :: r) ∧ ((91 :: r).drop (setFrom (91 :: r))).getD (e - setFrom (91 :: r)) 0 = 93 := closeF_le _ _ _ _ _ (Nat.le_refl _) he
  have hf : 1 ≤ setFrom (91 :: r) := by unfold setFrom; split <;> omega
  obtain ⟨a1, a2, a3, a4⟩ := hcl
  have hel : e < (91 :: r).length := by simp at a2 ⊢; omega
  have hb : (91 :: r).getD e 0 = 93 := by
    rw [List.getD_eq_getElem?_getD, List.getElem?_drop, show setFrom (91 :: r) + (e - setFrom (91 :: r)) = e by omega, ← List.getD_eq_getElem?_getD] at a4
    exact a4
  have h1 := valid_take _ _ e (Nat.le_refl _) hv hel (by rw [hb]; decide)
  obtain ⟨e', rfl⟩ : ∃ e', e = e' + 1 := ⟨e - 1, by omega⟩
  refine ⟨by omega, hel, ?_, ?_⟩
  · rw [List.take_succ_cons, validD_cons _ _ (by decide)] at h1
    simpa using h1
  · rw [List.drop_eq_getElem_cons hel]
    rw [List.getD_eq_getElem?_getD, List.getElem?_eq_getElem hel] at hb
    simp only [Option.getD_some] at hb
    rw [hb]

/-- where a part's matching stands -/
structure PSt (p0 n0 p n again fr : List UInt8) (star : Bool) : Prop where
  vp : validD p = true
  wp : wfP p = true
  vn : validD n = true
  va : validD again = true
  wa : wfP again = true
  vf : validD fr = true
  lp : p.length ≤ p0.length
  la : again.length ≤ p0.length
  lf : fr.length ≤ n0.length
  ln : n.length ≤ n0.length
  lnf : star = true → n.length ≤ fr.length
  st : Stands (toksP p) (runesP n) (if star = true then some (toksP again, runesP fr) else none)
  op : Open (toksP p) (runesP n) (if star = true then some (toksP again, runesP fr) else none) ↔ partP p0 n0 = true
theorem PSt.start {p n : List UInt8} (h1 : validD p = true) (h2 : wfP p = true) (h3 : validD n = true) : PSt p n p n [] [] false := by
  refine ⟨h1, h2, h3, rfl, rfl, rfl, Nat.le_refl _, Nat.zero_le _, Nat.zero_le _, Nat.le_refl _, (fun h => nomatch h), trivial, ?_⟩
  unfold Open partP
  simp [backOK]
theorem PSt.star {p0 n0 p n again fr : List UInt8} {star : Bool} (h : PSt p0 n0 (42 :: p) n again fr star) : PSt p0 n0 p n p n true := by
  have h1 : validD p = true := by have := h.vp; rwa [validD_cons _ _ (by decide)] at this
  have h2 : wfP p = true := by have := h.wp; rwa [wfP_plain (by decide) (by decide)] at this
  have hl := h.lp
  simp only [List.length_cons] at hl
  refine ⟨h1, h2, h.vn, h1, h2, h.vn, by omega, by omega, h.ln, h.ln, fun _ => Nat.le_refl _, ?_, ?_⟩
  · rw [if_pos rfl]; exact Stands.start _ _
  · rw [if_pos rfl, ← h.op]
    have hs := h.st
    rw [toksP_star] at hs ⊢
    exact (open_star hs).symm
theorem PSt.one {p0 n0 q n again fr : List UInt8} {c : UInt8} {star : Bool} (h : PSt p0 n0 (c :: q) n again fr star) (hc : c ≠ 42) (hn : n ≠ []) (ho : (oneP (c :: q) (runeT n)).1 = true) :
    PSt p0 n0 ((c :: q).drop (oneP (c :: q) []).2) (n.drop (runeW n)) again fr star := by
  obtain ⟨w1, w2, w3⟩ := wf_next h.vp h.wp hc
  obtain ⟨r1, r2⟩ := valid_next hn h.vn
  refine ⟨w2, w3, r2, h.va, h.wa, h.vf, by have := h.lp; simp at this ⊢; omega, h.la, h.lf, by have := h.ln; simp; omega, fun q => by have := h.lnf q; simp; omega, ?_, ?_⟩
  · have hs := h.st
    rw [toksP_one hc w1, runesP_step hn r1] at hs
    exact hs.one
  · rw [← h.op, toksP_one hc w1, runesP_step hn r1]
    exact (open_one (f := fun r => (oneP (c :: q) r).1) ho).symm
/-- nothing is taken -/
theorem PSt.no {p0 n0 p n again fr : List UInt8} {star : Bool} (h : PSt p0 n0 p n again fr star) (hn : n ≠ []) (hf : p = [] ∨ ∃ c q, p = c :: q ∧ c ≠ 42 ∧ (oneP p (runeT n)).1 = false) : matchT (toksP p) (runesP n) = false := by
  obtain ⟨r1, r2⟩ := valid_next hn h.vn
  rw [runesP_step hn r1]
  rcases hf with rfl | ⟨c, q, rfl, hc, ho⟩
  · rw [toksP_nil]; simp only [matchT, List.isEmpty_cons]
  · obtain ⟨w1, w2, w3⟩ := wf_next h.vp h.wp hc
    rw [toksP_one hc w1]
    simp only [matchT, ho, Bool.false_and]
theorem PSt.fail {p0 n0 p n again fr : List UInt8} (h : PSt p0 n0 p n again fr false) (hn : n ≠ []) (hf : p = [] ∨ ∃ c q, p = c :: q ∧ c ≠ 42 ∧ (oneP p (runeT n)).1 = false) : partP p0 n0 = false := by
  have hno := h.no hn hf
  have := open_none hno
  rw [← Bool.not_eq_true]
  intro e
  exact this (h.op.2 e)
theorem PSt.back {p0 n0 p n again fr : List UInt8} (h : PSt p0 n0 p n again fr true) (hn : n ≠ []) (hf : p = [] ∨ ∃ c q, p = c :: q ∧ c ≠ 42 ∧ (oneP p (runeT n)).1 = false) :
    fr ≠ [] ∧ 1 ≤ runeW fr ∧ PSt p0 n0 again (fr.drop (runeW fr)) again (fr.drop (runeW fr)) true := by
  have hno := h.no hn hf
  have hfr : fr ≠ [] := by
    intro e
    have h1 := h.lnf rfl
    rw [e] at h1
    exact hn (List.eq_nil_of_length_eq_zero (by simpa using h1))
  obtain ⟨r1, r2⟩ := valid_next hn h.vn
  obtain ⟨f1, f2⟩ := valid_next hfr h.vf
  have hs := h.st
  have ho := h.op
  rw [if_pos rfl] at hs ho
  rw [runesP_step hn r1] at hs ho hno
  have hb := open_back hno hs
  have ht : (runesP fr).tail = runesP (fr.drop (runeW fr)) := by rw [runesP_step hfr f1]; rfl
  rw [ht] at hb
  refine ⟨hfr, f1, ⟨h.va, h.wa, f2, h.va, h.wa, f2, h.la, h.la, by have := h.lf; simp; omega, by have := h.lf; simp; omega, fun _ => Nat.le_refl _, ?_, ?_⟩⟩
  · rw [if_pos rfl]; exact Stands.start _ _
  · rw [if_pos rfl, ← ho]; exact hb.symm
theorem toks_stars : ∀ (n : Nat) (p : List UInt8), p.length ≤ n → validD p = true → wfP p = true → ((∀ x ∈ toksP p, x = none) ↔ p.all (· == 42) = true) := by
  intro n
  induction n with
  | zero =>
    intro p hp _ _
    have : p = [] := List.eq_nil_of_length_eq_zero (by omega)
    subst this
    simp [toksP_nil]
  | succ n ih =>
    intro p hp hv hw
    cases p with
    | nil => simp [toksP_nil]
    | cons c q =>
      by_cases hc : c = 42
      · subst hc
        rw [toksP_star]
        have := ih q (by simp at hp; omega) (by rwa [validD_cons _ _ (by decide)] at hv) (by rwa [wfP_plain (by decide) (by decide)] at hw)
        simp only [List.mem_cons, forall_eq_or_imp, true_and, List.all_cons, beq_self_eq_true, Bool.true_and]
        exact this
      · rw [toksP_one hc (wf_next hv hw hc).1]
        simp [hc]
theorem PSt.fin {p0 n0 p again fr : List UInt8} {star : Bool} (h : PSt p0 n0 p [] again fr star) : partP p0 n0 = p.all (· == 42) := by
  have h1 := open_end h.st
  have h2 := toks_stars _ p (Nat.le_refl _) h.vp h.wp
  have h3 := h.op
  rw [Bool.eq_iff_iff, ← h3, ← h2]
  exact h1
end Go.Proofs.YtoifnnhbejofjaaDoor.Plain

/-! part 12 -/
namespace Go.Proofs.YtoifnnhbejofjaaDoor.Plain
open Go.Lib

def okG (s : List UInt8) : Bool := (checkP 400 s).2 == 0
def matchG (p s : List UInt8) : Bool := okG p && pathOK s && (if p = [42, 42] then true else if 47 ∈ p then partsP (parts p) (parts s) else partP p (baseM s))
theorem okG_iff {s : List UInt8} : okG s = true ↔ (checkP 400 s).2 = 0 := by unfold okG; simp
theorem okG_ok {s : List UInt8} (h : okG s = true) : s ≠ [] ∧ s.length ≤ 400 ∧ validD s = true ∧ ∀ x ∈ parts s, validD x = true ∧ wfP x = true := check_ok (okG_iff.1 h)
theorem base_last {s : List UInt8} (h : pathOK s = true) : baseM s = (parts s).getLast (parts_ne s) := by unfold baseM; rw [if_pos h]
theorem loopC_off : ∀ (f k j : Nat) (b : Bool) (l : List UInt8), (loopC f k b l).2 = (loopC f j b l).2 := by
  intro f
  induction f with
  | zero => intros; rfl
  | succ f ih =>
    intro k j b l
    cases l with
    | nil => rfl
    | cons c r =>
      unfold loopC
      split
      · split
        · rfl
        · exact ih _ _ _ _
      split
      · cases r with
        | nil => rfl
        | cons d r' =>
          simp only
          split
          · rfl
          · exact ih _ _ _ _
      split
      · cases closeP (c :: r) with
        | none => rfl
        | some e => exact ih _ _ _ _
      · exact ih _ _ _ _
theorem okG_stars {p : List UInt8} (h : okG p = true) (hl : p.length ≤ 397) : okG (42 :: 42 :: 47 :: p) = true := by
  obtain ⟨hne, h400, hv, -⟩ := okG_ok h
  rw [okG_iff] at h ⊢
  have hb : badP (42 :: 42 :: 47 :: p) = none := by rw [badP_valid, validD_cons _ _ (by decide), validD_cons _ _ (by decide), validD_cons _ _ (by decide)]; exact hv
  have hb2 : badP p = none := (badP_valid p).2 hv
  unfold checkP at h ⊢
  rw [if_neg (fun e => by rcases e with e | e; exact hne e; omega), hb2] at h
  rw [if_neg (fun e => by rcases e with e | e; cases e; simp at e; omega), hb]
  simp only [List.length_cons] at h ⊢
  unfold loopC
  rw [if_neg (by decide), if_neg (by decide), if_neg (by decide)]
  unfold loopC
  rw [if_neg (by decide), if_neg (by decide), if_neg (by decide)]
  unfold loopC
  rw [if_pos rfl, if_neg (fun e => by rcases e with e | e; cases e; exact hne e)]
  rw [← h]
  exact loopC_off _ _ _ _ _
theorem match_all (p : List (Option (List UInt8 → Bool))) (n : List (List UInt8)) (h : matchT p [] = true) : matchT (none :: p) n = true := by
  rw [matchT_star]; exact ⟨n.length, Nat.le_refl _, by rw [List.drop_length]; exact h⟩
theorem match_last {R : Type} (f : R → Bool) (n : List R) (hn : n ≠ []) : matchT [none, some f] n = f (n.getLast hn) := by
  rw [Bool.eq_iff_iff, matchT_star]
  have key : ∀ m : List R, matchT [some f] m = true ↔ ∃ x, m = [x] ∧ f x = true := fun m => by
    match m with
    | [] => simp [matchT]
    | [x] => simp [matchT]
    | x :: y :: m => simp [matchT]
  constructor
  · rintro ⟨i, hi, h⟩
    obtain ⟨x, h1, h2⟩ := (key _).1 h
    have : n.getLast hn = x := by
      have h3 : n = n.take i ++ [x] := by rw [← h1, List.take_append_drop]
      have : ∀ (l : List R) (hl : l ≠ []), l = n.take i ++ [x] → l.getLast hl = x := fun l hl e => by subst e; simp
      exact this n hn h3
    rw [this]; exact h2
  · intro h
    refine ⟨n.length - 1, by omega, (key _).2 ⟨n.getLast hn, ?_, h⟩⟩
    have hl : 0 < n.length := List.length_pos_iff.2 hn
    rw [List.drop_eq_getElem_cons (by omega), List.getLast_eq_getElem]
    rw [List.drop_eq_nil_of_le (by omega)]
theorem okG_2stars : okG [42, 42] = true := by decide +kernel
theorem okG_star : okG [42] = true := by decide +kernel
theorem okG_3 : okG [42, 42, 47, 42] = true := okG_stars okG_star (by decide)
theorem partP_star (n : List UInt8) : partP [42] n = true := by
  unfold partP
  rw [toksP_star, toksP_nil]
  rw [matchT_star]
  exact ⟨_, Nat.le_refl _, by rw [List.drop_length]; simp [matchT]⟩
theorem matchG_2stars {s : List UInt8} (h : pathOK s = true) : matchG [42, 42] s = true := by
  unfold matchG; rw [okG_2stars, h, if_pos rfl]; rfl
theorem matchG_star {s : List UInt8} (h : pathOK s = true) : matchG [42] s = true := by
  unfold matchG; rw [okG_star, h, if_neg (by decide), if_neg (by decide), partP_star]; rfl
theorem partsTok_stars : partsTok [42, 42] = none := by unfold partsTok; rw [if_pos rfl]
theorem partsTok_no {p : List UInt8} (h : p ≠ [42, 42]) : partsTok p = some (partP p) := by unfold partsTok; rw [if_neg h]
theorem parts_stars {p : List UInt8} (h : 47 ∉ p) : parts (42 :: 42 :: 47 :: p) = [[42, 42], p] := by
  have := parts_first [42, 42] p (by decide)
  rw [parts_none p h] at this
  exact this
/-- '**' ahead of a pattern -/
theorem matchG_ahead {p s : List UInt8} (hs : pathOK s = true) (hp : okG p = true) (hl : p.length ≤ 397) (h47 : 47 ∉ p) (hne : p ≠ [42, 42]) : matchG (42 :: 42 :: 47 :: p) s = matchG p s := by
  unfold matchG
  rw [okG_stars hp hl, hp, hs, if_neg (by simp), if_pos (by simp), if_neg hne, if_neg h47, parts_stars h47]
  unfold partsP
  rw [List.map_cons, List.map_cons, List.map_nil, partsTok_stars, partsTok_no hne, match_last _ _ (parts_ne s), base_last hs]
theorem matchG_3 {s : List UInt8} (h : pathOK s = true) : matchG [42, 42, 47, 42] s = true := by
  have := matchG_ahead h okG_star (by decide) (by decide) (by decide)
  rw [this]; exact matchG_star h

/-! what rules ignore -/
structure Rule where
  pat : List UInt8
  ign : Bool
deriving DecidableEq
def lastR (l : List Rule) (s : List UInt8) : Bool := match l.find? (fun r => matchG r.pat s) with
  | some r => r.ign
  | none => false
def lastG (l : List Rule) (s : List UInt8) : Bool := lastR l.reverse s
theorem lastR_nil (s : List UInt8) : lastR [] s = false := rfl
theorem lastR_cons (r : Rule) (l : List Rule) (s : List UInt8) : lastR (r :: l) s = if matchG r.pat s then r.ign else lastR l s := by
  unfold lastR
  rw [List.find?_cons]
  cases matchG r.pat s <;> rfl
theorem lastG_snoc (r : Rule) (l : List Rule) (s : List UInt8) : lastG (l ++ [r]) s = if matchG r.pat s then r.ign else lastG l s := by
  unfold lastG
  rw [List.reverse_append, List.reverse_singleton, List.singleton_append, lastR_cons]
theorem lastG_twice (l : List Rule) (s : List UInt8) : lastG (l ++ l) s = lastG l s := by
  unfold lastG lastR
  rw [List.reverse_append, List.find?_append]
  cases l.reverse.find? (fun r => matchG r.pat s) <;> simp
/-- from the names of a path on upwards -/
def ignF (g : List UInt8 → Bool) : Nat → List (List UInt8) → Bool
  | 0, _ => false
  | _, [] => false
  | f + 1, x :: l => g (joinS (x :: l)) || ignF g f (x :: l).dropLast
def ignN (g : List UInt8 → Bool) (l : List (List UInt8)) : Bool := ignF g l.length l
def ignG (l : List Rule) (s : List UInt8) : Bool := pathOK s && ignN (lastG l) (parts s)
theorem ignN_nil (g : List UInt8 → Bool) : ignN g [] = false := rfl
theorem ignN_step (g : List UInt8 → Bool) {l : List (List UInt8)} (h : l ≠ []) : ignN g l = (g (joinS l) || ignN g l.dropLast) := by
  cases l with
  | nil => exact absurd rfl h
  | cons x l =>
    unfold ignN
    rw [List.length_dropLast]
    rfl
theorem ignN_iff (g : List UInt8 → Bool) : ∀ (n : Nat) (l : List (List UInt8)), l.length ≤ n → (ignN g l = true ↔ ∃ p, p <+: l ∧ p ≠ [] ∧ g (joinS p) = true) := by
  intro n
  induction n with
  | zero =>
    intro l h
    have : l = [] := List.eq_nil_of_length_eq_zero (by omega)
    subst this
    rw [ignN_nil]
    constructor
    · intro h; cases h
    · rintro ⟨p, h1, h2, _⟩; exact absurd (List.prefix_nil.1 h1) h2
  | succ n ih =>
    intro l h
    by_cases hl : l = []
    · subst hl
      rw [ignN_nil]
      constructor
      · intro h; cases h
      · rintro ⟨p, h1, h2, _⟩; exact absurd (List.prefix_nil.1 h1) h2
    · rw [ignN_step g hl, Bool.or_eq_true, ih l.dropLast (by simp; omega)]
      constructor
      · rintro (h | ⟨p, h1, h2, h3⟩)
        · exact ⟨l, List.prefix_refl _, hl, h⟩
        · exact ⟨p, h1.trans (List.dropLast_prefix l), h2, h3⟩
      · rintro ⟨p, h1, h2, h3⟩
        by_cases e : p = l
        · exact .inl (by rw [← e]; exact h3)
        · refine .inr ⟨p, ?_, h2, h3⟩
          obtain ⟨t, rfl⟩ := h1
          have ht : t ≠ [] := fun e' => e (by rw [e']; simp)
          rw [List.dropLast_append_of_ne_nil ht]
          exact List.prefix_append _ _
theorem ignG_iff (l : List Rule) (s : List UInt8) : ignG l s = true ↔ pathOK s = true ∧ ∃ p, p <+: parts s ∧ p ≠ [] ∧ lastG l (joinS p) = true := by
  unfold ignG; rw [Bool.and_eq_true, ignN_iff _ _ _ (Nat.le_refl _)]
/-- what is below -/
theorem ign_below {l : List Rule} {s t : List UInt8} (hp : parts s <+: parts t) (ht : pathOK t = true) (h : ignG l s = true) : ignG l t = true := by
  rw [ignG_iff] at h ⊢
  obtain ⟨_, p, h1, h2⟩ := h
  exact ⟨ht, p, h1.trans hp, h2⟩
theorem parts_under (s t : List UInt8) : parts s <+: parts (s ++ 47 :: t) := by
  rw [← prefix_parts]
  exact .inr ⟨t, by simp⟩
/-- a path's parent -/
theorem parent_parts {s : List UInt8} (h : pathOK s = true) (hl : (parts s).dropLast ≠ []) : parts (parentM s) = (parts s).dropLast := by
  unfold parentM
  rw [if_pos h, parts_join _ hl (fun x hx => parts_no s x (List.dropLast_subset _ hx))]
theorem parent_nil {s : List UInt8} (h : pathOK s = true) : parentM s = [] ↔ (parts s).dropLast = [] := by
  constructor
  · intro e
    by_cases hl : (parts s).dropLast = []
    · exact hl
    · exfalso
      have h1 := parent_parts h hl
      rw [e] at h1
      have h2 := parts_none [] (by simp)
      rw [h2] at h1
      have hm : ([] : List UInt8) ∈ parts s := List.dropLast_subset _ (by rw [← h1]; simp)
      have := pathOK_mem h hm
      simp [nameOK] at this
  · intro e; unfold parentM; rw [if_pos h, e]; rfl
theorem parent_ok {s : List UInt8} (h : pathOK s = true) (hne : parentM s ≠ []) : pathOK (parentM s) = true := by
  have hl : (parts s).dropLast ≠ [] := fun e => hne ((parent_nil h).2 e)
  have hu : parentM s = joinS (parts s).dropLast := by unfold parentM; rw [if_pos h]
  have h47 : 47 ∈ s := by
    apply Classical.byContradiction
    intro c
    rw [parts_none s c] at hl
    exact hl rfl
  obtain ⟨p, q, rfl, hq⟩ := last_cut h47
  rw [parent_cut p q hq h]
  exact path_above p q hq h
/-- one step of the loop upwards -/
theorem ignG_step (l : List Rule) {s : List UInt8} (h : pathOK s = true) : ignG l s = (lastG l s || (if parentM s = [] then false else ignG l (parentM s))) := by
  unfold ignG
  rw [h, Bool.true_and, ignN_step _ (parts_ne s), join_parts]
  congr 1
  by_cases e : parentM s = []
  · rw [if_pos e, (parent_nil h).1 e]; rfl
  · rw [if_neg e, parent_ok h e, Bool.true_and, parent_parts h (fun c => e ((parent_nil h).2 c))]
theorem parent_shorter {s : List UInt8} (h : pathOK s = true) (hne : parentM s ≠ []) : (parentM s).length < s.length := by
  have hl : (parts s).dropLast ≠ [] := fun e => hne ((parent_nil h).2 e)
  have h47 : 47 ∈ s := by
    apply Classical.byContradiction
    intro c
    rw [parts_none s c] at hl
    exact hl rfl
  obtain ⟨p, q, rfl, hq⟩ := last_cut h47
  rw [parent_cut p q hq h]
  simp
end Go.Proofs.YtoifnnhbejofjaaDoor.Plain

/-! part 13 -/
namespace Go.Proofs.YtoifnnhbejofjaaDoor.Plain
open Go.Lib

theorem dec_at (l : List UInt8) (i : Nat) : Utf8.decode ⟨l.toArray⟩ i = decodeL (l.drop i) := by
  have := decodeL_drop ⟨l.toArray⟩ i
  simpa using this.symm
theorem dec_valid {l : List UInt8} (hne : l ≠ []) (hv : validD l = true) : decodeL l = (valR (runeT l), runeW l) := by
  obtain ⟨h1, h2⟩ := valid_next hne hv
  obtain ⟨r1, r2, r3⟩ := runeT_rune hne h1
  obtain ⟨e2, _⟩ := runeW_pos h1
  rw [r2, ← e2]
theorem valR_le (t : List UInt8) : valR t ≤ 1114111 := decodeL_rune t
theorem runeW_le' {l : List UInt8} (hne : l ≠ []) : runeW l ≤ l.length := by
  have := runeW_le l 0 (List.length_pos_iff.2 hne)
  simpa using this
/-- what has been gathered of what stands between brackets -/
def lits (l : List UInt8) : List (Nat × Bool) := numL (litsR false (runesP l))
theorem litsR_at {e : Bool} {l : List UInt8} (hne : l ≠ []) (hw : 1 ≤ runeW l) : litsR e (runesP l) = if runeT l = [92] ∧ e = false then litsR true (runesP (l.drop (runeW l))) else (runeT l, e) :: litsR false (runesP (l.drop (runeW l))) := by
  rw [runesP_step hne hw]; rfl
theorem back_rune : IsRune [92] ∧ valR [92] = 92 := by
  have h := runeT_rune (l := [92]) (by simp) (by decide)
  have h2 : runeT [92] = [92] := by decide
  rw [h2] at h
  exact ⟨h.1, by rw [h.2.1]; decide⟩
theorem runeT_back {l : List UInt8} (hne : l ≠ []) (hw : 1 ≤ runeW l) : runeT l = [92] ↔ valR (runeT l) = 92 := by
  have h := rune_same (runeT_rune hne hw).1 back_rune.1
  rw [back_rune.2, Bool.eq_iff_iff, beq_iff_eq, beq_iff_eq] at h
  exact h
/-- one rune of the first loop -/
theorem lits_step {acc : List (Nat × Bool)} {e : Bool} {l : List UInt8} {L : List (Nat × Bool)} (hne : l ≠ []) (hv : validD l = true) (h : acc ++ numL (litsR e (runesP l)) = L) :
    (valR (runeT l) = 92 ∧ e = false → acc ++ numL (litsR true (runesP (l.drop (runeW l)))) = L) ∧ (¬ (valR (runeT l) = 92 ∧ e = false) → (acc ++ [(valR (runeT l), e)]) ++ numL (litsR false (runesP (l.drop (runeW l)))) = L) := by
  obtain ⟨hw, _⟩ := valid_next hne hv
  rw [litsR_at hne hw] at h
  have hb := runeT_back hne hw
  constructor
  · rintro ⟨q1, q2⟩
    rw [if_pos ⟨hb.2 q1, q2⟩] at h
    exact h
  · intro q
    rw [if_neg (fun c => q ⟨hb.1 c.1, c.2⟩)] at h
    rw [← h]
    simp [numL]
theorem lits_end (acc : List (Nat × Bool)) (e : Bool) : acc ++ numL (litsR e (runesP [])) = acc := by
  rw [runesP_nil]; cases e <;> simp [litsR, numL]
theorem lits_le (l : List UInt8) (hv : validD l = true) : ∀ (n : Nat), l.length ≤ n → (runesP l).length ≤ l.length := by
  intro n
  induction n generalizing l with
  | zero =>
    intro h
    have : l = [] := List.eq_nil_of_length_eq_zero (by omega)
    subst this; simp [runesP_nil]
  | succ n ih =>
    intro h
    by_cases hne : l = []
    · subst hne; simp [runesP_nil]
    · obtain ⟨hw, hv2⟩ := valid_next hne hv
      have hl := runeW_le' hne
      have := ih (l.drop (runeW l)) hv2 (by simp; omega)
      rw [runesP_step hne hw]
      simp at this ⊢
      omega
/-- the second loop -/
theorem holdN_dash {l : List (Nat × Bool)} {r : Nat} (h : 2 < l.length) (hd : l[1] = (45, false)) : holdN l r = ((decide (l[0].1 ≤ r) && decide (r ≤ l[2].1)) || holdN (l.drop 3) r) := by
  match l, h, hd with
  | x :: y :: z :: l, _, hd =>
    have hd' : y = (45, false) := hd
    show (if y = (45, false) then _ else _) = _
    rw [if_pos hd']
    rfl
theorem holdN_one {l : List (Nat × Bool)} {r : Nat} (h0 : 0 < l.length) (h : ∀ h : 2 < l.length, l[1] ≠ (45, false)) : holdN l r = ((l[0].1 == r) || holdN (l.drop 1) r) := by
  match l, h0, h with
  | [x], _, _ => simp [holdN]
  | [x, y], _, _ => simp [holdN]
  | x :: y :: z :: l, _, h =>
    have hd' : y ≠ (45, false) := h (by simp)
    show (if y = (45, false) then _ else _) = _
    rw [if_neg hd']
    rfl
theorem holdN_dash_at {L : List (Nat × Bool)} {r o : Nat} (h : o + 2 < L.length) (hd : L[o + 1] = (45, false)) : holdN (L.drop o) r = ((decide (L[o].1 ≤ r) && decide (r ≤ L[o + 2].1)) || holdN (L.drop (o + 3)) r) := by
  rw [holdN_dash (l := L.drop o) (by simp; omega) (by simpa using hd), List.drop_drop]
  simp
theorem holdN_one_at {L : List (Nat × Bool)} {r o : Nat} (h0 : o < L.length) (h : ∀ h : o + 2 < L.length, L[o + 1] ≠ (45, false)) : holdN (L.drop o) r = ((L[o].1 == r) || holdN (L.drop (o + 1)) r) := by
  rw [holdN_one (l := L.drop o) (by simp; omega) (fun q => by simpa using h (by simp at q; omega)), List.drop_drop]
  simp
theorem holdN_end {L : List (Nat × Bool)} {r o : Nat} (h : L.length ≤ o) : holdN (L.drop o) r = false := by
  rw [List.drop_eq_nil_of_le h]; rfl
theorem runes_lits {l : List UInt8} (hv : validD l = true) {t : List UInt8} (ht : IsRune t) : holdL (litsP (runesP l)) t = holdN (lits l) (valR t) := by
  rw [litsP_R _ _ (Nat.le_refl _)]
  exact hold_num _ _ _ (Nat.le_refl _) ht (litsR_runes _ _ (runes_valid _ _ (Nat.le_refl _) hv).1)
theorem bang_valid {l : List UInt8} (h : validD (33 :: l) = true) : validD l = true := by rwa [validD_cons _ _ (by decide)] at h
theorem holdsP_num {l t : List UInt8} (hv : validD l = true) (ht : IsRune t) : holdsP l t = if l.head? = some 33 then !holdN (lits (l.drop 1)) (valR t) else holdN (lits l) (valR t) := by
  unfold holdsP
  split
  · rename_i h
    cases l with
    | nil => simp at h
    | cons c l =>
      simp only [List.head?_cons, Option.some.injEq] at h
      subst h
      rw [List.drop_one, List.tail_cons, runes_lits (bang_valid hv) ht]
  · rw [runes_lits hv ht]
/-- the loop of invalid -/
theorem badF_at {f k : Nat} {c : UInt8} {l : List UInt8} : badF (f + 1) k (c :: l) = if runeW (c :: l) = 0 then some k else badF f (k + runeW (c :: l)) ((c :: l).drop (runeW (c :: l))) := rfl
theorem badF_fuel : ∀ (f g k : Nat) (l : List UInt8), l.length ≤ f → l.length ≤ g → badF f k l = badF g k l := by
  intro f
  induction f with
  | zero =>
    intro g k l h1 h2
    have : l = [] := List.eq_nil_of_length_eq_zero (by omega)
    subst this
    cases g <;> rfl
  | succ f ih =>
    intro g k l h1 h2
    cases l with
    | nil => cases g <;> rfl
    | cons c r =>
      obtain ⟨g', rfl⟩ : ∃ g', g = g' + 1 := ⟨g - 1, by simp at h2; omega⟩
      simp only [List.length_cons] at h1 h2
      rw [badF_at, badF_at]
      split
      · rfl
      · exact ih _ _ _ (by simp; omega) (by simp; omega)
def badAt (k : Nat) (l : List UInt8) : Option Nat := badF l.length k l
theorem badAt_nil (k : Nat) : badAt k [] = none := rfl
theorem badAt_step {k : Nat} {l : List UInt8} (hne : l ≠ []) : badAt k l = if runeW l = 0 then some k else badAt (k + runeW l) (l.drop (runeW l)) := by
  cases l with
  | nil => exact absurd rfl hne
  | cons c r =>
    unfold badAt
    rw [List.length_cons, badF_at]
    split
    · rfl
    · exact badF_fuel _ _ _ _ (by simp; omega) (Nat.le_refl _)
theorem badP_at (l : List UInt8) : badP l = badAt 0 l := rfl
def badI (o : Option Nat) : Int := match o with | none => -1 | some k => k
end Go.Proofs.YtoifnnhbejofjaaDoor.Plain

/-! part 14 -/
namespace Go.Proofs.YtoifnnhbejofjaaDoor.Plain
open Go.Lib

def loopA (k : Nat) (b : Bool) (l : List UInt8) : Nat × Nat := loopC l.length k b l
theorem loopA_nil (k : Nat) (b : Bool) : loopA k b [] = (0, 0) := rfl
theorem loopA_slash {k : Nat} {b : Bool} {r : List UInt8} : loopA k b (47 :: r) = if b = false ∨ r = [] then (k, 20) else loopA (k + 1) false r := by
  show loopC (r.length + 1) k b (47 :: r) = _
  unfold loopC
  rw [if_pos rfl]
  rfl
theorem loopA_back0 {k : Nat} {b : Bool} : loopA k b [92] = (k, 20) := rfl
theorem loopA_back {k : Nat} {b : Bool} {d : UInt8} {r : List UInt8} : loopA k b (92 :: d :: r) = if d = 47 then (k, 20) else loopA (k + 2) true r := by
  show loopC (r.length + 1 + 1) k b (92 :: d :: r) = _
  unfold loopC
  rw [if_neg (by decide), if_pos rfl]
  simp only
  split
  · rfl
  · exact loopC_fuel _ _ _ _ _ (by omega) (Nat.le_refl _)
theorem loopA_set {k : Nat} {b : Bool} {r : List UInt8} : loopA k b (91 :: r) = match closeP (91 :: r) with
    | none => (k, 20)
    | some e => loopA (k + e + 1) true ((91 :: r).drop (e + 1)) := by
  show loopC (r.length + 1) k b (91 :: r) = _
  unfold loopC
  rw [if_neg (by decide), if_neg (by decide), if_pos rfl]
  cases closeP (91 :: r) with
  | none => rfl
  | some e => exact loopC_fuel _ _ _ _ _ (by simp) (Nat.le_refl _)
theorem loopA_set_none {k : Nat} {b : Bool} {r : List UInt8} (h : closeP (91 :: r) = none) : loopA k b (91 :: r) = (k, 20) := by rw [loopA_set, h]
theorem loopA_set_some {k e : Nat} {b : Bool} {r : List UInt8} (h : closeP (91 :: r) = some e) : loopA k b (91 :: r) = loopA (k + e + 1) true ((91 :: r).drop (e + 1)) := by rw [loopA_set, h]
theorem loopA_one {k : Nat} {b : Bool} {c : UInt8} {r : List UInt8} (h1 : c ≠ 47) (h2 : c ≠ 92) (h3 : c ≠ 91) : loopA k b (c :: r) = loopA (k + 1) true r := by
  show loopC (r.length + 1) k b (c :: r) = _
  unfold loopC
  rw [if_neg h1, if_neg h2, if_neg h3]
  rfl
theorem checkP_long {m : Nat} {s : List UInt8} (h : s = [] ∨ m < s.length) : checkP m s = (s.length, 20) := by unfold checkP; rw [if_pos h]
theorem checkP_bad {m k : Nat} {s : List UInt8} (h : ¬ (s = [] ∨ m < s.length)) (hb : badP s = some k) : checkP m s = (k, 20) := by unfold checkP; rw [if_neg h, hb]
theorem checkP_loop {m : Nat} {s : List UInt8} (h : ¬ (s = [] ∨ m < s.length)) (hb : badP s = none) : checkP m s = loopA 0 false s := by unfold checkP; rw [if_neg h, hb]; rfl
/-- the place of the first byte that is part of no rune lies in the text -/
theorem badAt_lt : ∀ (n k i : Nat) (l : List UInt8), l.length ≤ n → badAt k l = some i → k ≤ i ∧ i < k + l.length := by
  intro n
  induction n with
  | zero =>
    intro k i l h1 h2
    have : l = [] := List.eq_nil_of_length_eq_zero (by omega)
    subst this
    rw [badAt_nil] at h2; cases h2
  | succ n ih =>
    intro k i l h1 h2
    by_cases hne : l = []
    · subst hne; rw [badAt_nil] at h2; cases h2
    · have hl : 0 < l.length := List.length_pos_iff.2 hne
      rw [badAt_step hne] at h2
      split at h2
      · injection h2 with h2; omega
      · have := ih _ _ _ (by simp; omega) h2
        simp at this
        have := runeW_le' hne
        omega
/-- set's loop: at place i of s -/
def closeA (s : List UInt8) (i : Nat) : Option Nat := closeF (setFrom s) i (s.drop i)
theorem closeA_end {s : List UInt8} {i : Nat} (h : s.length ≤ i) : closeA s i = none := by
  unfold closeA; rw [List.drop_eq_nil_of_le h]; unfold closeF; rfl
theorem closeA_step {s : List UInt8} {i : Nat} (h : i < s.length) : closeA s i =
    if s[i] = 47 then none else if s[i] = 92 then (if h2 : i + 1 < s.length then (if s[i + 1] = 47 then none else closeA s (i + 2)) else none) else if s[i] = 93 then (if i = setFrom s then none else some i) else closeA s (i + 1) := by
  unfold closeA
  rw [List.drop_eq_getElem_cons h]
  conv => lhs; unfold closeF
  by_cases h1 : i + 1 < s.length
  · rw [List.drop_eq_getElem_cons h1, dif_pos h1]
  · rw [List.drop_eq_nil_of_le (show s.length ≤ i + 1 by omega), dif_neg h1]
theorem closeA_closeP (s : List UInt8) : closeA s (setFrom s) = closeP s := rfl
theorem setFrom_1 {c : UInt8} {r : List UInt8} (h : r.head? ≠ some 33) : setFrom (c :: r) = 1 := by
  unfold setFrom; rw [List.drop_one, List.tail_cons, if_neg h]
theorem setFrom_2 {c : UInt8} {r : List UInt8} (h : r.head? = some 33) : setFrom (c :: r) = 2 := by
  unfold setFrom; rw [List.drop_one, List.tail_cons, if_pos h]
end Go.Proofs.YtoifnnhbejofjaaDoor.Plain
end
