/- Plain laws for the document's reader of patterns: runes by the bytes behind their first, the first byte that is part of no rune, what stands between brackets ends with no lone backslash. No program in sight. -/
import Derived.Test.YtgppfcaghjbjmaaDoorPlainGlob
namespace Go.Proofs.YtgppfcaghjbjmaaDoor.Plain
open Go.Lib

def contB (c : UInt8) : Bool := decide (128 ≤ c.toNat) && decide (c.toNat ≤ 191)
theorem contB_iff {c : UInt8} : contB c = true ↔ 128 ≤ c.toNat ∧ c.toNat ≤ 191 := by unfold contB; simp
theorem form_cont {t : List UInt8} {v : Nat} (h : Form t v) : (∀ i, 1 ≤ i → i < t.length → contB (t.getD i 0) = true) ∧ contB (t.getD 0 0) = false := by
  have hf : ∀ c : UInt8, (c.toNat < 128 ∨ 192 ≤ c.toNat) → contB c = false := fun c hc => by
    rw [← Bool.not_eq_true, contB_iff]; omega
  cases h with
  | one a ha => exact ⟨fun i h1 h2 => by simp at h2; omega, hf _ (by simpa using .inl ha)⟩
  | two a b _ ha hb _ _ =>
    refine ⟨fun i h1 h2 => ?_, hf _ (by right; show 192 ≤ a.toNat; omega)⟩
    simp at h2
    obtain rfl : i = 1 := by omega
    rw [contB_iff]; show 128 ≤ b.toNat ∧ b.toNat ≤ 191; omega
  | three a b c _ ha hb hc _ _ =>
    refine ⟨fun i h1 h2 => ?_, hf _ (by right; show 192 ≤ a.toNat; omega)⟩
    simp at h2
    rw [contB_iff]
    rcases (show i = 1 ∨ i = 2 by omega) with rfl | rfl
    · show 128 ≤ b.toNat ∧ b.toNat ≤ 191; omega
    · show 128 ≤ c.toNat ∧ c.toNat ≤ 191; omega
  | four a b c d _ ha hb hc hd _ _ =>
    refine ⟨fun i h1 h2 => ?_, hf _ (by right; show 192 ≤ a.toNat; omega)⟩
    simp at h2
    rw [contB_iff]
    rcases (show i = 1 ∨ i = 2 ∨ i = 3 by omega) with rfl | rfl | rfl
    · show 128 ≤ b.toNat ∧ b.toNat ≤ 191; omega
    · show 128 ≤ c.toNat ∧ c.toNat ≤ 191; omega
    · show 128 ≤ d.toNat ∧ d.toNat ≤ 191; omega
theorem runeT_getD {l : List UInt8} {i : Nat} (h : i < runeW l) : (runeT l).getD i 0 = l.getD i 0 := by
  unfold runeT
  rw [List.getD_eq_getElem?_getD, List.getD_eq_getElem?_getD, List.getElem?_take_of_lt h]
/-- the bytes of a rune behind its first one, and the byte behind the rune -/
theorem rune_cont {l : List UInt8} (hne : l ≠ []) (hv : validD l = true) : (∀ i, 1 ≤ i → i < runeW l → contB (l.getD i 0) = true) ∧ contB (l.getD 0 0) = false := by
  obtain ⟨h1, _⟩ := valid_next hne hv
  obtain ⟨hr, _, hlen⟩ := runeT_rune hne h1
  obtain ⟨a, b⟩ := form_cont (rune_form hr)
  refine ⟨fun i q1 q2 => ?_, ?_⟩
  · rw [← runeT_getD q2]; exact a i q1 (by rw [hlen]; exact q2)
  · rw [← runeT_getD (show 0 < runeW l by omega)]; exact b
theorem rune_stop {l : List UInt8} (hne : l ≠ []) (hv : validD l = true) (h : runeW l < l.length) : contB (l.getD (runeW l) 0) = false := by
  obtain ⟨_, hv2⟩ := valid_next hne hv
  have hne2 : l.drop (runeW l) ≠ [] := by intro e; have := congrArg List.length e; simp at this; omega
  have := (rune_cont hne2 hv2).2
  rw [List.getD_eq_getElem?_getD, List.getElem?_drop, Nat.add_zero, ← List.getD_eq_getElem?_getD] at this
  exact this

/-- no lone backslash at the end -/
def evenR : Bool → List (List UInt8) → Bool
  | e, [] => !e
  | e, x :: l => if x = [92] ∧ e = false then evenR true l else evenR false l
theorem closeF_skip (from' : Nat) : ∀ (k : Nat) (r : List UInt8) (i : Nat), (∀ j, j < k → 128 ≤ (r.getD j 0).toNat) → k ≤ r.length → closeF from' i r = closeF from' (i + k) (r.drop k) := by
  intro k
  induction k with
  | zero => intro r i _ _; simp
  | succ k ih =>
    intro r i h hk
    cases r with
    | nil => simp at hk
    | cons c r =>
      have h0 : 128 ≤ c.toNat := by simpa using h 0 (by omega)
      have e : closeF from' i (c :: r) = closeF from' (i + 1) r := by
        conv => lhs; unfold closeF
        rw [if_neg (fun e => by subst e; revert h0; decide), if_neg (fun e => by subst e; revert h0; decide), if_neg (fun e => by subst e; revert h0; decide)]
      rw [e, ih r (i + 1) (fun j hj => by simpa using h (j + 1) (by omega)) (by simpa using hk), List.drop_succ_cons]
      congr 1; omega
theorem runes_take {l : List UInt8} {n : Nat} (hne : l ≠ []) (hw : 1 ≤ runeW l) (h : runeW l ≤ n) (hn : n ≤ l.length) : runesP (l.take n) = runeT l :: runesP ((l.drop (runeW l)).take (n - runeW l)) := by
  have hne2 : l.take n ≠ [] := by
    intro e
    have h0 : (l.take n).length = 0 := by rw [e]; rfl
    have hl : 0 < l.length := List.length_pos_iff.2 hne
    rw [List.length_take] at h0
    omega
  have hwt := runeW_take hw h hn
  rw [runesP_step hne2 (by rw [hwt]; exact hw), hwt]
  congr 1
  · unfold runeT
    rw [hwt, List.take_take, Nat.min_eq_left h]
  · rw [List.drop_take]
theorem inner_even (from' : Nat) : ∀ (m : Nat) (r : List UInt8) (i e : Nat), r.length ≤ m → validD r = true → closeF from' i r = some e → evenR false (runesP (r.take (e - i))) = true := by
  intro m
  induction m with
  | zero =>
    intro r i e h _ hc
    have : r = [] := List.eq_nil_of_length_eq_zero (by omega)
    subst this
    simp [closeF] at hc
  | succ m ih =>
    intro r i e h hv hc
    cases r with
    | nil => simp [closeF] at hc
    | cons c q =>
      have hb0 := closeF_le from' _ (c :: q) i e (Nat.le_refl _) hc
      simp only [List.length_cons] at h
      by_cases h93 : c = 93
      · subst h93
        unfold closeF at hc
        rw [if_neg (by decide), if_neg (by decide), if_pos rfl] at hc
        split at hc
        · cases hc
        · injection hc with hc
          subst hc
          rw [Nat.sub_self, List.take_zero]; rfl
      by_cases h92 : c = 92
      · subst h92
        unfold closeF at hc
        rw [if_neg (by decide), if_pos rfl] at hc
        cases q with
        | nil => cases hc
        | cons d r' =>
          simp only at hc
          split at hc
          · cases hc
          have hvd : validD (d :: r') = true := by rwa [validD_cons _ _ (by decide)] at hv
          have hdne : (d :: r') ≠ [] := by simp
          obtain ⟨w1, w2⟩ := valid_next hdne hvd
          have hwl := runeW_le' hdne
          have hcont := (rune_cont hdne hvd).1
          have hsk := closeF_skip from' (runeW (d :: r') - 1) r' (i + 2) (fun j hj => by
            have := (contB_iff.1 (hcont (j + 1) (by omega) (by omega))).1
            simpa using this) (by simp at hwl; omega)
          rw [hc] at hsk
          have hdr : r'.drop (runeW (d :: r') - 1) = (d :: r').drop (runeW (d :: r')) := by
            conv => rhs; rw [show runeW (d :: r') = (runeW (d :: r') - 1) + 1 by omega]
            rw [List.drop_succ_cons]
          rw [hdr, show i + 2 + (runeW (d :: r') - 1) = i + 1 + runeW (d :: r') by omega] at hsk
          have hb := closeF_le from' _ _ _ _ (Nat.le_refl _) hsk.symm
          have hi := ih _ _ _ (by simp at h ⊢; omega) w2 hsk.symm
          have hone : runeW (92 :: d :: r') = 1 := by have := runeW_asc (92 :: d :: r') 0 (by show (92 : UInt8).toNat < 128; decide); simpa using this
          have h1 := runes_take (l := 92 :: d :: r') (n := e - i) (by simp) (by omega) (by omega) (by have := hb0.2.1; omega)
          rw [hone] at h1
          have h2 := runes_take (l := d :: r') (n := e - i - 1) hdne w1 (by omega) (by have := hb0.2.1; simp at this ⊢; omega)
          rw [h1]
          have ht : runeT (92 :: d :: r') = [92] := by unfold runeT; rw [hone]; rfl
          rw [ht]
          show evenR true (runesP ((d :: r').take (e - i - 1))) = true
          rw [h2, show e - i - 1 - runeW (d :: r') = e - (i + 1 + runeW (d :: r')) by omega]
          unfold evenR
          rw [if_neg (fun c => by cases c.2)]
          exact hi
      · by_cases h47 : c = 47
        · subst h47
          rw [closeF_slash] at hc; cases hc
        have hne : (c :: q) ≠ [] := by simp
        obtain ⟨w1, w2⟩ := valid_next hne hv
        have hwl := runeW_le' hne
        have hcont := (rune_cont hne hv).1
        unfold closeF at hc
        rw [if_neg h47, if_neg h92, if_neg h93] at hc
        have hsk := closeF_skip from' (runeW (c :: q) - 1) q (i + 1) (fun j hj => by
          have := (contB_iff.1 (hcont (j + 1) (by omega) (by omega))).1
          simpa using this) (by simp at hwl; omega)
        rw [hc] at hsk
        have hdr : q.drop (runeW (c :: q) - 1) = (c :: q).drop (runeW (c :: q)) := by
          conv => rhs; rw [show runeW (c :: q) = (runeW (c :: q) - 1) + 1 by omega]
          rw [List.drop_succ_cons]
        rw [hdr, show i + 1 + (runeW (c :: q) - 1) = i + runeW (c :: q) by omega] at hsk
        have hb := closeF_le from' _ _ _ _ (Nat.le_refl _) hsk.symm
        have hi := ih _ _ _ (by simp; omega) w2 hsk.symm
        have h1 := runes_take (l := c :: q) (n := e - i) hne w1 (by omega) (by have := hb0.2.1; simp at this ⊢; omega)
        rw [h1, show e - i - runeW (c :: q) = e - (i + runeW (c :: q)) by omega]
        have ht : runeT (c :: q) ≠ [92] := by
          intro e1
          have : (runeT (c :: q)).head? = some 92 := by rw [e1]; rfl
          unfold runeT at this
          obtain ⟨k, hk⟩ : ∃ k, runeW (c :: q) = k + 1 := ⟨runeW (c :: q) - 1, by omega⟩
          rw [hk, List.take_succ_cons] at this
          injection this with this
          exact h92 this
        unfold evenR
        rw [if_neg (fun c => ht c.1)]
        exact hi
/-- what stands between brackets, with the '!' struck, ends with no lone backslash -/
theorem close_even {q : List UInt8} {e : Nat} (hv : validD (91 :: q) = true) (h : closeP (91 :: q) = some e) : evenR false (runesP (((91 :: q).take e).drop (setFrom (91 :: q)))) = true := by
  unfold closeP at h
  have hv2 : validD ((91 :: q).drop (setFrom (91 :: q))) = true := by
    unfold setFrom
    split
    · rename_i h33
      cases q with
      | nil => simp at h33
      | cons c q =>
        simp only [List.drop_succ_cons, List.drop_zero, List.head?_cons, Option.some.injEq] at h33
        subst h33
        rw [validD_cons _ _ (by decide), validD_cons _ _ (by decide)] at hv
        exact hv
    · rw [validD_cons _ _ (by decide)] at hv
      exact hv
  have := inner_even _ _ _ _ _ (Nat.le_refl _) hv2 h
  rw [List.drop_take]
  exact this
theorem runeW_ext {l : List UInt8} {e : Nat} (h : 1 ≤ runeW (l.take e)) (hel : e ≤ l.length) (hne : l.take e ≠ []) : runeW l = runeW (l.take e) := by
  obtain ⟨e2, hok⟩ := runeW_pos h
  have hwl := runeW_le' hne
  have hlen : (l.take e).length = e := by simp; omega
  rw [hlen] at hwl
  have hg : ∀ i, i < e → (l.take e).getD i 0 = l.getD i 0 := fun i hi => by
    rw [List.getD_eq_getElem?_getD, List.getD_eq_getElem?_getD, List.getElem?_take_of_lt hi]
  have hd : decodeN (l.take e).length ((l.take e).getD 0 0).toNat ((l.take e).getD 1 0).toNat ((l.take e).getD 2 0).toNat ((l.take e).getD 3 0).toNat = ((decodeL (l.take e)).1, runeW (l.take e)) := by
    rw [← decodeL_N, ← e2]
  have hc := decodeN_at hd (by rw [← e2]; exact hok) (c1 := (l.getD 1 0).toNat) (c2 := (l.getD 2 0).toNat) (c3 := (l.getD 3 0).toNat) (fun q => by rw [hg 1 (by omega)]) (fun q => by rw [hg 2 (by omega)]) (fun q => by rw [hg 3 (by omega)]) (n := l.length) (by omega)
  rw [hg 0 (by omega)] at hc
  have hd2 : decodeL l = ((decodeL (l.take e)).1, runeW (l.take e)) := by rw [decodeL_N]; exact hc
  have hu : runeW l = if (decodeL l).1 = 65533 ∧ (decodeL l).2 = 1 then 0 else (decodeL l).2 := rfl
  rw [hu, hd2]
  rw [if_neg (by rw [← e2]; exact hok)]
/-- the first byte that is part of no rune: a valid beginning that stops short of it stops between two runes -/
theorem bad_before : ∀ (n : Nat) (l : List UInt8) (k at' : Nat), l.length ≤ n → at' < l.length → validD (l.take at') = true → (∀ j, badAt k l = some j → k + at' < j) → 1 ≤ runeW (l.drop at') := by
  intro n
  induction n with
  | zero => intro l k at' h1 h2; omega
  | succ n ih =>
    intro l k at' h1 h2 hv hb
    have hne : l ≠ [] := fun e => by rw [e] at h2; simp at h2
    have hst := badAt_step (k := k) hne
    by_cases h0 : runeW l = 0
    · rw [if_pos h0] at hst
      have := hb k hst
      omega
    · rw [if_neg h0] at hst
      by_cases ha : at' = 0
      · subst ha; simpa using (show 1 ≤ runeW l by omega)
      · have hle : runeW l ≤ at' := by
          -- a valid beginning's first rune is this one
          have hne2 : l.take at' ≠ [] := by
            intro e
            have h0 : (l.take at').length = 0 := by rw [e]; rfl
            rw [List.length_take] at h0
            omega
          obtain ⟨v1, _⟩ := valid_next hne2 hv
          have h4 := runeW_le' hne2
          rw [runeW_ext v1 (by omega) hne2]
          rw [List.length_take] at h4
          omega
        have hdt : validD ((l.drop (runeW l)).take (at' - runeW l)) = true := by
          have hw := runeW_take (show 1 ≤ runeW l by omega) hle (by omega)
          have hne2 : l.take at' ≠ [] := by
            intro e
            have h0 : (l.take at').length = 0 := by rw [e]; rfl
            rw [List.length_take] at h0
            omega
          have := (valid_next hne2 hv).2
          rw [hw, List.drop_take] at this
          exact this
        have := ih (l.drop (runeW l)) (k + runeW l) (at' - runeW l) (by simp; omega) (by simp; omega) hdt (fun j hj => by
          have := hb j (by rw [hst]; exact hj)
          omega)
        rw [List.drop_drop, show runeW l + (at' - runeW l) = at' by omega] at this
        exact this
end Go.Proofs.YtgppfcaghjbjmaaDoor.Plain
