/- Texts joined: PlainGlobR, RuneRef, NameRef. -/
import Derived.Test.YtjhjepkmcbjgoaaDoorBPlanBase13
import Derived.Test.YtjhjepkmcbjgoaaDoorBPlanBase11
import Derived.Test.YtjhjepkmcbjgoaaDoorBPlanBase12
import Derived.IntWalk
import Derived.Test.YtjhjepkmcbjgoaaDoorBPlanBase18
set_option linter.unusedSimpArgs false
set_option linter.unusedVariables false

/- Plain laws for the document's reader of patterns: runes by the bytes behind their first, the first byte that is part of no rune, what stands between brackets ends with no lone backslash. No program in sight. -/
section
namespace Go.Proofs.YtjhjepkmcbjgoaaDoor.Plain
open Go.Lib

def contB (c : UInt8) : Bool := decide (128 ≤ c.toNat) && decide (c.toNat ≤ 191)
theorem contB_iff {c : UInt8} : contB c = true ↔ 128 ≤ c.toNat ∧ c.toNat ≤ 191 := by unfold contB; simp
theorem form_cont {t : List UInt8} {v : Nat} (h : Form t v) : (∀ i, 1 ≤ i → i < t.length → contB (t.getD i 0) = true) ∧ contB (t.getD 0 0) = false := by
  have hf : ∀ c : UInt8, (c.toNat < 128 ∨ 192 ≤ c.toNat) → contB c = false := fun c hc => by
    rw [← Bool.not_eq_true, contB_iff]; omega
  cases h with
  | one a ha => exact ⟨fun i h1 h2 => by simp at h2; omega, hf _ (by simpa using .inl ha)⟩
  | two a b _ ha hb _ _ =>
    refine ⟨fun i h1 h2 => ?_, hf _ (by right; show 192 ≤ a.toNat; omega)⟩
    simp at h2
    obtain rfl : i = 1 := by omega
    rw [contB_iff]; show 128 ≤ b.toNat ∧ b.toNat ≤ 191; omega
  | three a b c _ ha hb hc _ _ =>
    refine ⟨fun i h1 h2 => ?_, hf _ (by right; show 192 ≤ a.toNat; omega)⟩
    simp at h2
    rw [contB_iff]
    rcases (show i = 1 ∨ i = 2 by omega) with rfl | rfl
    · show 128 ≤ b.toNat ∧ b.toNat ≤ 191; omega
    · show 128 ≤ c.toNat ∧ c.toNat ≤ 191; omega
  | four a b c d _ ha hb hc hd _ _ =>
    refine ⟨fun i h1 h2 => ?_, hf _ (by right; show 192 ≤ a.toNat; omega)⟩
    simp at h2
    rw [contB_iff]
    rcases (show i = 1 ∨ i = 2 ∨ i = 3 by omega) with rfl | rfl | rfl
    · show 128 ≤ b.toNat ∧ b.toNat ≤ 191; omega
    · show 128 ≤ c.toNat ∧ c.toNat ≤ 191; omega
    · show 128 ≤ d.toNat ∧ d.toNat ≤ 191; omega
theorem runeT_getD {l : List UInt8} {i : Nat} (h : i < runeW l) : (runeT l).getD i 0 = l.getD i 0 := by
  unfold runeT
  rw [List.getD_eq_getElem?_getD, List.getD_eq_getElem?_getD, List.getElem?_take_of_lt h]
/-- the bytes of a rune behind its first one, and the byte behind the rune -/
theorem rune_cont {l : List UInt8} (hne : l ≠ []) (hv : validD l = true) : (∀ i, 1 ≤ i → i < runeW l → contB (l.getD i 0) = true) ∧ contB (l.getD 0 0) = false := by
  obtain ⟨h1, _⟩ := valid_next hne hv
  obtain ⟨hr, _, hlen⟩ := runeT_rune hne h1
  obtain ⟨a, b⟩ := form_cont (rune_form hr)
  refine ⟨fun i q1 q2 => ?_, ?_⟩
  · rw [← runeT_getD q2]; exact a i q1 (by rw [hlen]; exact q2)
  · rw [← runeT_getD (show 0 < runeW l by omega)]; exact b
theorem rune_stop {l : List UInt8} (hne : l ≠ []) (hv : validD l = true) (h : runeW l < l.length) : contB (l.getD (runeW l) 0) = false := by
  obtain ⟨_, hv2⟩ := valid_next hne hv
  have hne2 : l.drop (runeW l) ≠ [] := by intro e; have := congrArg List.length e; simp at this; omega
  have := (rune_cont hne2 hv2).2
  rw [List.getD_eq_getElem?_getD, List.getElem?_drop, Nat.add_zero, ← List.getD_eq_getElem?_getD] at this
  exact this

/-- no lone backslash at the end -/
def evenR : Bool → List (List UInt8) → Bool
  | e, [] => !e
  | e, x :: l => if x = [92] ∧ e = false then evenR true l else evenR false l
theorem closeF_skip (from' : Nat) : ∀ (k : Nat) (r : List UInt8) (i : Nat), (∀ j, j < k → 128 ≤ (r.getD j 0).toNat) → k ≤ r.length → closeF from' i r = closeF from' (i + k) (r.drop k) := by
  intro k
  induction k with
  | zero => intro r i _ _; simp
  | succ k ih =>
    intro r i h hk
    cases r with
    | nil => simp at hk
    | cons c r =>
      have h0 : 128 ≤ c.toNat := by simpa using h 0 (by omega)
      have e : closeF from' i (c :: r) = closeF from' (i + 1) r := by
        conv => lhs; unfold closeF
        rw [if_neg (fun e => by subst e; revert h0; decide), if_neg (fun e => by subst e; revert h0; decide), if_neg (fun e => by subst e; revert h0; decide)]
      rw [e, ih r (i + 1) (fun j hj => by simpa using h (j + 1) (by omega)) (by simpa using hk), List.drop_succ_cons]
      congr 1; omega
theorem runes_take {l : List UInt8} {n : Nat} (hne : l ≠ []) (hw : 1 ≤ runeW l) (h : runeW l ≤ n) (hn : n ≤ l.length) : runesP (l.take n) = runeT l :: runesP ((l.drop (runeW l)).take (n - runeW l)) := by
  have hne2 : l.take n ≠ [] := by
    intro e
    have h0 : (l.take n).length = 0 := by rw [e]; rfl
    have hl : 0 < l.length := List.length_pos_iff.2 hne
    rw [List.length_take] at h0
    omega
  have hwt := runeW_take hw h hn
  rw [runesP_step hne2 (by rw [hwt]; exact hw), hwt]
  congr 1
  · unfold runeT
    rw [hwt, List.take_take, Nat.min_eq_left h]
  · rw [List.drop_take]
theorem inner_even (from' : Nat) : ∀ (m : Nat) (r : List UInt8) (i e : Nat), r.length ≤ m → validD r = true → closeF from' i r = some e → evenR false (runesP (r.take (e - i))) = true := by
  intro m
  induction m with
  | zero =>
    intro r i e h _ hc
    have : r = [] := List.eq_nil_of_length_eq_zero (by omega)
    subst this
    simp [closeF] at hc
  | succ m ih =>
    intro r i e h hv hc
    cases r with
    | nil => simp [closeF] at hc
    | cons c q =>
      have hb0 := closeF_le from' _ (c :: q) i e (Nat.le_refl _) hc
      simp only [List.length_cons] at h
      by_cases h93 : c = 93
      · subst h93
        unfold closeF at hc
        rw [if_neg (by decide), if_neg (by decide), if_pos rfl] at hc
        split at hc
        · cases hc
        · injection hc with hc
          subst hc
          rw [Nat.sub_self, List.take_zero]; rfl
      by_cases h92 : c = 92
      · subst h92
        unfold closeF at hc
        rw [if_neg (by decide), if_pos rfl] at hc
        cases q with
        | nil => cases hc
        | cons d r' =>
          simp only at hc
          split at hc
          · cases hc
          have hvd : validD (d :: r') = true := by rwa [validD_cons _ _ (by decide)] at hv
          have hdne : (d :: r') ≠ [] := by simp
          obtain ⟨w1, w2⟩ := valid_next hdne hvd
          have hwl := runeW_le' hdne
          have hcont := (rune_cont hdne hvd).1
          have hsk := closeF_skip from' (runeW (d :: r') - 1) r' (i + 2) (fun j hj => by
            have := (contB_iff.1 (hcont (j + 1) (by omega) (by omega))).1
            simpa using this) (by simp at hwl; omega)
          rw [hc] at hsk
          have hdr : r'.drop (runeW (d :: r') - 1) = (d :: r').drop (runeW (d :: r')) := by
            conv => rhs; rw [show runeW (d :: r') = (runeW (d :: r') - 1) + 1 by omega]
            rw [List.drop_succ_cons]
          rw [hdr, show i + 2 + (runeW (d :: r') - 1) = i + 1 + runeW (d :: r') by omega] at hsk
          have hb := closeF_le from' _ _ _ _ (Nat.le_refl _) hsk.symm
          have hi := ih _ _ _ (by simp at h ⊢; omega) w2 hsk.symm
          have hone : runeW (92 :: d :: r') = 1 := by have := runeW_asc (92 :: d :: r') 0 (by show (92 : UInt8).toNat < 128; decide); simpa using this
          have h1 := runes_take (l := 92 :: d :: r') (n := e - i) (by simp) (by omega) (by omega) (by have := hb0.2.1; omega)
          rw [hone] at h1
          have h2 := runes_take (l := d :: r') (n := e - i - 1) hdne w1 (by omega) (by have := hb0.2.1; simp at this ⊢; omega)
          rw [h1]
          have ht : runeT (92 :: d :: r') = [92] := by unfold runeT; rw [hone]; rfl
          rw [ht]
          show evenR true (runesP ((d :: r').take (e - i - 1))) = true
          rw [h2, show e - i - 1 - runeW (d :: r') = e - (i + 1 + runeW (d :: r')) by omega]
          unfold evenR
          rw [if_neg (fun c => by cases c.2)]
          exact hi
      · by_cases h47 : c = 47
        · subst h47
          rw [closeF_slash] at hc; cases hc
        have hne : (c :: q) ≠ [] := by simp
        obtain ⟨w1, w2⟩ := valid_next hne hv
        have hwl := runeW_le' hne
        have hcont := (rune_cont hne hv).1
        unfold closeF at hc
        rw [if_neg h47, if_neg h92, if_neg h93] at hc
        have hsk := closeF_skip from' (runeW (c :: q) - 1) q (i + 1) (fun j hj => by
          have := (contB_iff.1 (hcont (j + 1) (by omega) (by omega))).1
          simpa using this) (by simp at hwl; omega)
        rw [hc] at hsk
        have hdr : q.drop (runeW (c :: q) - 1) = (c :: q).drop (runeW (c :: q)) := by
          conv => rhs; rw [show runeW (c :: q) = (runeW (c :: q) - 1) + 1 by omega]
          rw [List.drop_succ_cons]
        rw [hdr, show i + 1 + (runeW (c :: q) - 1) = i + runeW (c :: q) by omega] at hsk
        have hb := closeF_le from' _ _ _ _ (Nat.le_refl _) hsk.symm
        have hi := ih _ _ _ (by simp; omega) w2 hsk.symm
        have h1 := runes_take (l := c :: q) (n := e - i) hne w1 (by omega) (by have := hb0.2.1; simp at this ⊢; omega)
        rw [h1, show e - i - runeW (c :: q) = e - (i + runeW (c :: q)) by omega]
        have ht : runeT (c :: q) ≠ [92] := by
          intro e1
          have : (runeT (c :: q)).head? = some 92 := by rw [e1]; rfl
          unfold runeT at this
          obtain ⟨k, hk⟩ : ∃ k, runeW (c :: q) = k + 1 := ⟨runeW (c :: q) - 1, by omega⟩
          rw [hk, List.take_succ_cons] at this
          injection this with this
          exact h92 this
        unfold evenR
        rw [if_neg (fun c => ht c.1)]
        exact hi
/-- what stands between brackets, with the '!' struck, ends with no lone backslash -/
theorem close_even {q : List UInt8} {e : Nat} (hv : validD (91 :: q) = true) (h : closeP (91 :: q) = some e) : evenR false (runesP (((91 :: q).take e).drop (setFrom (91 :: q)))) = true := by
  unfold closeP at h
  have hv2 : validD ((91 :: q).drop (setFrom (91 :: q))) = true := by
    unfold setFrom
    split
    · rename_i h33
      cases q with
      | nil => simp at h33
      | cons c q =>
        simp only [List.drop_succ_cons, List.drop_zero, List.head?_cons, Option.some.injEq] at h33
        subst h33
        rw [validD_cons _ _ (by decide), validD_cons _ _ (by decide)] at hv
        exact hv
    · rw [validD_cons _ _ (by decide)] at hv
      exact hv
  have := inner_even _ _ _ _ _ (Nat.le_refl _) hv2 h
  rw [List.drop_take]
  exact this
theorem runeW_ext {l : List UInt8} {e : Nat} (h : 1 ≤ runeW (l.take e)) (hel : e ≤ l.length) (hne : l.take e ≠ []) : runeW l = runeW (l.take e) := by
  obtain ⟨e2, hok⟩ := runeW_pos h
  have hwl := runeW_le' hne
  have hlen : (l.take e).length = e := by simp; omega
  rw [hlen] at hwl
  have hg : ∀ i, i < e → (l.take e).getD i 0 = l.getD i 0 := fun i hi => by
    rw [List.getD_eq_getElem?_getD, List.getD_eq_getElem?_getD, List.getElem?_take_of_lt hi]
  have hd : decodeN (l.take e).length ((l.take e).getD 0 0).toNat ((l.take e).getD 1 0).toNat ((l.take e).getD 2 0).toNat ((l.take e).getD 3 0).toNat = ((decodeL (l.take e)).1, runeW (l.take e)) := by
    rw [← decodeL_N, ← e2]
  have hc := decodeN_at hd (by rw [← e2]; exact hok) (c1 := (l.getD 1 0).toNat) (c2 := (l.getD 2 0).toNat) (c3 := (l.getD 3 0).toNat) (fun q => by rw [hg 1 (by omega)]) (fun q => by rw [hg 2 (by omega)]) (fun q => by rw [hg 3 (by omega)]) (n := l.length) (by omega)
  rw [hg 0 (by omega)] at hc
  have hd2 : decodeL l = ((decodeL (l.take e)).1, runeW (l.take e)) := by rw [decodeL_N]; exact hc
  have hu : runeW l = if (decodeL l).1 = 65533 ∧ (decodeL l).2 = 1 then 0 else (decodeL l).2 := rfl
  rw [hu, hd2]
  rw [if_neg (by rw [← e2]; exact hok)]
/-- the first byte that is part of no rune: a valid beginning that stops short of it stops between two runes -/
theorem bad_before : ∀ (n : Nat) (l : List UInt8) (k at' : Nat), l.length ≤ n → at' < l.length → validD (l.take at') = true → (∀ j, badAt k l = some j → k + at' < j) → 1 ≤ runeW (l.drop at') := by
  intro n
  induction n with
  | zero => intro l k at' h1 h2; omega
  | succ n ih =>
    intro l k at' h1 h2 hv hb
    have hne : l ≠ [] := fun e => by rw [e] at h2; simp at h2
    have hst := badAt_step (k := k) hne
    by_cases h0 : runeW l = 0
    · rw [if_pos h0] at hst
      have := hb k hst
      omega
    · rw [if_neg h0] at hst
      by_cases ha : at' = 0
      · subst ha; simpa using (show 1 ≤ runeW l by omega)
      · have hle : runeW l ≤ at' := by
          -- a valid beginning's first rune is this one
          have hne2 : l.take at' ≠ [] := by
            intro e
            have h0 : (l.take at').length = 0 := by rw [e]; rfl
            rw [List.length_take] at h0
            omega
          obtain ⟨v1, _⟩ := valid_next hne2 hv
          have h4 := runeW_le' hne2
          rw [runeW_ext v1 (by omega) hne2]
          rw [List.length_take] at h4
          omega
        have hdt : validD ((l.drop (runeW l)).take (at' - runeW l)) = true := by
          have hw := runeW_take (show 1 ≤ runeW l by omega) hle (by omega)
          have hne2 : l.take at' ≠ [] := by
            intro e
            have h0 : (l.take at').length = 0 := by rw [e]; rfl
            rw [List.length_take] at h0
            omega
          have := (valid_next hne2 hv).2
          rw [hw, List.drop_take] at this
          exact this
        have := ih (l.drop (runeW l)) (k + runeW l) (at' - runeW l) (by simp; omega) (by simp; omega) hdt (fun j hj => by
          have := hb j (by rw [hst]; exact hj)
          omega)
        rw [List.drop_drop, show runeW l + (at' - runeW l) = at' by omega] at this
        exact this
end Go.Proofs.YtjhjepkmcbjgoaaDoor.Plain
end

/- The document's reader of a rune. -/
section
set_option linter.unusedVariables false
namespace Go.Proofs.YtjhjepkmcbjgoaaDoor
open Go.RowKit Plain

theorem u8c (x : UInt8) : (0 : Int) ≤ x.toNat ∧ (x.toNat : Int) ≤ 255 := by have := x.toNat_lt; omega

set_option maxHeartbeats 2000000 in
set_option maxRecDepth 100000 in
theorem rune_2 (l : List UInt8) (k : Nat) (w : World) (hk : k < l.length) (h63 : l.length ≤ 4294967296) (hlo : 194 ≤ (l[k]).toNat) (hhi : (l[k]).toNat ≤ 223) :
    Calls Tryd.prog 84 #[.string ⟨l.toArray⟩, .int .i64 k] w (Ret w (.int .i64 (runeW (l.drop k)))) := by
  have HW := Lib.hid (runeW_2 l k hk hlo hhi)
  have HV := Lib.hid (vAt_le l k ((l[k]).toNat - 192) (by omega))
  obtain ⟨v0, hv0⟩ : ∃ v0, (l[k]).toNat - 192 = v0 := ⟨_, rfl⟩
  have hv0' : ((l[k]).toNat : Int) - 192 = (v0 : Int) := by omega
  rw [hv0] at HW HV
  have HV0 := Lib.hid hv0'
  clear hv0 hv0'
  generalize hb : l[k] = b at *
  have hg0 : (ByteArray.mk l.toArray)[k]'(by simpa [ByteArray.size] using hk) = b := by rw [ba_get]; exact hb
  have i0 : (0 : Int) ≤ k := by omega
  have i1 : (k : Int) < l.length := by omega
  have b1 : (194 : Int) ≤ b.toNat := by omega
  have b2 : (b.toNat : Int) ≤ 223 := by omega
  clear hb
  by_cases hlen : l.length < k + 2
  · have HR := Lib.hid (HW.out.1 hlen)
    have hd : decide ((l.length : Int) < (k : Int) + 2) = true := by simp; omega
    clear hlen
    go_enter Tryd.func84, Tryd.ntmps84
    go_wp2_with (fail)
    go_ret
    exact ⟨by rw [HR.out]; rfl, Below.refl _ _⟩
  · have hd : decide ((l.length : Int) < (k : Int) + 2) = false := by simp; omega
    go_enter Tryd.func84, Tryd.ntmps84
    go_wp2_with (fail)
    go_loopw [8, 9] (fun t8 t9 W => ∃ i : Nat, 1 ≤ i ∧ i ≤ 2 ∧ t9 = .int .i64 i ∧ t8 = .int .i64 (vAt l k v0 i) ∧ Hid (∀ j, 1 ≤ j → j < i → 128 ≤ (l.getD (k + j) 0).toNat ∧ (l.getD (k + j) 0).toNat ≤ 191) ∧ W = w) (fun _ t9 _ => 8 - (intOf t9).toNat)
    case atStart => exact ⟨1, by omega, by omega, rfl, by rw [vAt_one, ← HV0.out], Lib.hid (fun j h1 h2 => by omega), rfl⟩
    case round =>
      obtain ⟨i, hi1, hi2, rfl, rfl, HC, rfl⟩ := hrel
      have hvi := HV.out i hi1 (by omega)
      by_cases hin : i < 2
      · have hg : l.getD (k + i) 0 = l[k + i]'(by omega) := by simp [List.getD, show k + i < l.length by omega]
        have HG := Lib.hid hg
        have hn1 : ((k : Int) + i).toNat = k + i := by omega
        have hp1 : (0 : Int) ≤ (k : Int) + i := by omega
        have hp2 : (k : Int) + i < l.length := by omega
        have hw1 : IntKind.i64.wrap ((k : Int) + i) = (k : Int) + i := IntWalk.i64_in _ (by omega)
        clear hg
        generalize hcc : l[k + i]'(by omega) = c at *
        have hg1 : (ByteArray.mk l.toArray)[k + i]'(by simp [ByteArray.size]; omega) = c := by rw [ba_get]; exact hcc
        clear hcc
        have hcb := u8c c
        by_cases hc : 128 ≤ c.toNat ∧ c.toNat ≤ 191
        · obtain ⟨hc1, hc2⟩ := hc
          have hc1' : (128 : Int) ≤ c.toNat := by omega
          have hc2' : (c.toNat : Int) ≤ 191 := by omega
          have hs : ((vAt l k v0 i : Nat) : Int) * 64 + c.toNat - 128 = ((vAt l k v0 (i + 1) : Nat) : Int) := by rw [vAt_succ l k v0 i hi1, HG.out]; omega
          have HS := Lib.hid hs
          have HGV : Hid (vAt l k v0 (i + 1) = vAt l k v0 (i + 1)) := Lib.hid rfl
          clear hs HGV
          generalize vAt l k v0 i = v at *
          go_wp2_with (fail)
          go_roundw
          case rel => exact ⟨i + 1, by omega, by omega, by go_num, by rw [← HS.out], Lib.hid (fun j h1 h2 => by
            by_cases e : j = i
            · subst e; rw [HG.out]; exact ⟨hc1, hc2⟩
            · exact HC.out j h1 (by omega)), by first | trivial | rfl⟩
          case measure => simp [intOf]; omega
        · have hz := HW.out.2.1 i hi1 hin (by omega) (by rw [HG.out]; exact hc)
          have HZ := Lib.hid hz
          clear hz
          by_cases hc1 : c.toNat < 128
          · have hc1' : (c.toNat : Int) < 128 := by omega
            clear hc
            generalize vAt l k v0 i = v at *
            go_wp2_with (fail)
            go_ret
            exact ⟨by rw [HZ.out]; rfl, Below.refl _ _⟩
          · have hc1' : (128 : Int) ≤ c.toNat := by omega
            have hc2' : (191 : Int) < c.toNat := by omega
            clear hc
            generalize vAt l k v0 i = v at *
            go_wp2_with (fail)
            go_ret
            exact ⟨by rw [HZ.out]; rfl, Below.refl _ _⟩
      · obtain rfl : i = 2 := by omega
        have HZ := Lib.hid (HW.out.2.2 (by omega) HC.out)
        generalize vAt l k v0 2 = v at *
        have v63 : (v : Int) ≤ 16777215 := by omega
        by_cases q1 : v < 128
        · have HF := Lib.hid (show finW 2 128 v = 0 by unfold finW; rw [if_pos (by omega)])
          have q1' : (v : Int) < 128 := by omega
          go_wp2_with (fail)
          go_ret
          exact ⟨by rw [HZ.out, HF.out]; rfl, Below.refl _ _⟩
        · have q1' : (128 : Int) ≤ v := by omega
          by_cases q2 : 1114111 < v
          · have HF := Lib.hid (show finW 2 128 v = 0 by unfold finW; rw [if_pos (by omega)])
            have q2' : (1114111 : Int) < v := by omega
            go_wp2_with (fail)
            go_ret
            exact ⟨by rw [HZ.out, HF.out]; rfl, Below.refl _ _⟩
          · have q2' : (v : Int) ≤ 1114111 := by omega
            by_cases q3 : 55296 ≤ v
            · have q3' : (55296 : Int) ≤ v := by omega
              by_cases q4 : v ≤ 57343
              · have HF := Lib.hid (show finW 2 128 v = 0 by unfold finW; rw [if_pos (by omega)])
                have q4' : (v : Int) ≤ 57343 := by omega
                go_wp2_with (fail)
                go_ret
                exact ⟨by rw [HZ.out, HF.out]; rfl, Below.refl _ _⟩
              · have HF := Lib.hid (show finW 2 128 v = 2 by unfold finW; rw [if_neg (by omega)])
                have q4' : (57343 : Int) < v := by omega
                go_wp2_with (fail)
                go_ret
                exact ⟨by rw [HZ.out, HF.out]; rfl, Below.refl _ _⟩
            · have HF := Lib.hid (show finW 2 128 v = 2 by unfold finW; rw [if_neg (by omega)])
              have q3' : decide ((55296 : Int) ≤ (v : Int)) = false := by simp; omega
              clear q1 q2 q3
              go_wp2_with (fail)
              go_ret
              exact ⟨by rw [HZ.out, HF.out]; rfl, Below.refl _ _⟩

set_option maxHeartbeats 2000000 in
set_option maxRecDepth 100000 in
theorem rune_3 (l : List UInt8) (k : Nat) (w : World) (hk : k < l.length) (h63 : l.length ≤ 4294967296) (hlo : 224 ≤ (l[k]).toNat) (hhi : (l[k]).toNat ≤ 239) :
    Calls Tryd.prog 84 #[.string ⟨l.toArray⟩, .int .i64 k] w (Ret w (.int .i64 (runeW (l.drop k)))) := by
  have HW := Lib.hid (runeW_3 l k hk hlo hhi)
  have HV := Lib.hid (vAt_le l k ((l[k]).toNat - 224) (by omega))
  obtain ⟨v0, hv0⟩ : ∃ v0, (l[k]).toNat - 224 = v0 := ⟨_, rfl⟩
  have hv0' : ((l[k]).toNat : Int) - 224 = (v0 : Int) := by omega
  rw [hv0] at HW HV
  have HV0 := Lib.hid hv0'
  clear hv0 hv0'
  generalize hb : l[k] = b at *
  have hg0 : (ByteArray.mk l.toArray)[k]'(by simpa [ByteArray.size] using hk) = b := by rw [ba_get]; exact hb
  have i0 : (0 : Int) ≤ k := by omega
  have i1 : (k : Int) < l.length := by omega
  have b1 : (224 : Int) ≤ b.toNat := by omega
  have b2 : (b.toNat : Int) ≤ 239 := by omega
  clear hb
  by_cases hlen : l.length < k + 3
  · have HR := Lib.hid (HW.out.1 hlen)
    have hd : decide ((l.length : Int) < (k : Int) + 3) = true := by simp; omega
    clear hlen
    go_enter Tryd.func84, Tryd.ntmps84
    go_wp2_with (fail)
    go_ret
    exact ⟨by rw [HR.out]; rfl, Below.refl _ _⟩
  · have hd : decide ((l.length : Int) < (k : Int) + 3) = false := by simp; omega
    go_enter Tryd.func84, Tryd.ntmps84
    go_wp2_with (fail)
    go_loopw [8, 9] (fun t8 t9 W => ∃ i : Nat, 1 ≤ i ∧ i ≤ 3 ∧ t9 = .int .i64 i ∧ t8 = .int .i64 (vAt l k v0 i) ∧ Hid (∀ j, 1 ≤ j → j < i → 128 ≤ (l.getD (k + j) 0).toNat ∧ (l.getD (k + j) 0).toNat ≤ 191) ∧ W = w) (fun _ t9 _ => 8 - (intOf t9).toNat)
    case atStart => exact ⟨1, by omega, by omega, rfl, by rw [vAt_one, ← HV0.out], Lib.hid (fun j h1 h2 => by omega), rfl⟩
    case round =>
      obtain ⟨i, hi1, hi2, rfl, rfl, HC, rfl⟩ := hrel
      have hvi := HV.out i hi1 (by omega)
      by_cases hin : i < 3
      · have hg : l.getD (k + i) 0 = l[k + i]'(by omega) := by simp [List.getD, show k + i < l.length by omega]
        have HG := Lib.hid hg
        have hn1 : ((k : Int) + i).toNat = k + i := by omega
        have hp1 : (0 : Int) ≤ (k : Int) + i := by omega
        have hp2 : (k : Int) + i < l.length := by omega
        have hw1 : IntKind.i64.wrap ((k : Int) + i) = (k : Int) + i := IntWalk.i64_in _ (by omega)
        clear hg
        generalize hcc : l[k + i]'(by omega) = c at *
        have hg1 : (ByteArray.mk l.toArray)[k + i]'(by simp [ByteArray.size]; omega) = c := by rw [ba_get]; exact hcc
        clear hcc
        have hcb := u8c c
        by_cases hc : 128 ≤ c.toNat ∧ c.toNat ≤ 191
        · obtain ⟨hc1, hc2⟩ := hc
          have hc1' : (128 : Int) ≤ c.toNat := by omega
          have hc2' : (c.toNat : Int) ≤ 191 := by omega
          have hs : ((vAt l k v0 i : Nat) : Int) * 64 + c.toNat - 128 = ((vAt l k v0 (i + 1) : Nat) : Int) := by rw [vAt_succ l k v0 i hi1, HG.out]; omega
          have HS := Lib.hid hs
          have HGV : Hid (vAt l k v0 (i + 1) = vAt l k v0 (i + 1)) := Lib.hid rfl
          clear hs HGV
          generalize vAt l k v0 i = v at *
          go_wp2_with (fail)
          go_roundw
          case rel => exact ⟨i + 1, by omega, by omega, by go_num, by rw [← HS.out], Lib.hid (fun j h1 h2 => by
            by_cases e : j = i
            · subst e; rw [HG.out]; exact ⟨hc1, hc2⟩
            · exact HC.out j h1 (by omega)), by first | trivial | rfl⟩
          case measure => simp [intOf]; omega
        · have hz := HW.out.2.1 i hi1 hin (by omega) (by rw [HG.out]; exact hc)
          have HZ := Lib.hid hz
          clear hz
          by_cases hc1 : c.toNat < 128
          · have hc1' : (c.toNat : Int) < 128 := by omega
            clear hc
            generalize vAt l k v0 i = v at *
            go_wp2_with (fail)
            go_ret
            exact ⟨by rw [HZ.out]; rfl, Below.refl _ _⟩
          · have hc1' : (128 : Int) ≤ c.toNat := by omega
            have hc2' : (191 : Int) < c.toNat := by omega
            clear hc
            generalize vAt l k v0 i = v at *
            go_wp2_with (fail)
            go_ret
            exact ⟨by rw [HZ.out]; rfl, Below.refl _ _⟩
      · obtain rfl : i = 3 := by omega
        have HZ := Lib.hid (HW.out.2.2 (by omega) HC.out)
        generalize vAt l k v0 3 = v at *
        have v63 : (v : Int) ≤ 16777215 := by omega
        by_cases q1 : v < 2048
        · have HF := Lib.hid (show finW 3 2048 v = 0 by unfold finW; rw [if_pos (by omega)])
          have q1' : (v : Int) < 2048 := by omega
          go_wp2_with (fail)
          go_ret
          exact ⟨by rw [HZ.out, HF.out]; rfl, Below.refl _ _⟩
        · have q1' : (2048 : Int) ≤ v := by omega
          by_cases q2 : 1114111 < v
          · have HF := Lib.hid (show finW 3 2048 v = 0 by unfold finW; rw [if_pos (by omega)])
            have q2' : (1114111 : Int) < v := by omega
            go_wp2_with (fail)
            go_ret
            exact ⟨by rw [HZ.out, HF.out]; rfl, Below.refl _ _⟩
          · have q2' : (v : Int) ≤ 1114111 := by omega
            by_cases q3 : 55296 ≤ v
            · have q3' : (55296 : Int) ≤ v := by omega
              by_cases q4 : v ≤ 57343
              · have HF := Lib.hid (show finW 3 2048 v = 0 by unfold finW; rw [if_pos (by omega)])
                have q4' : (v : Int) ≤ 57343 := by omega
                go_wp2_with (fail)
                go_ret
                exact ⟨by rw [HZ.out, HF.out]; rfl, Below.refl _ _⟩
              · have HF := Lib.hid (show finW 3 2048 v = 3 by unfold finW; rw [if_neg (by omega)])
                have q4' : (57343 : Int) < v := by omega
                go_wp2_with (fail)
                go_ret
                exact ⟨by rw [HZ.out, HF.out]; rfl, Below.refl _ _⟩
            · have HF := Lib.hid (show finW 3 2048 v = 3 by unfold finW; rw [if_neg (by omega)])
              have q3' : decide ((55296 : Int) ≤ (v : Int)) = false := by simp; omega
              clear q1 q2 q3
              go_wp2_with (fail)
              go_ret
              exact ⟨by rw [HZ.out, HF.out]; rfl, Below.refl _ _⟩

set_option maxHeartbeats 2000000 in
set_option maxRecDepth 100000 in
theorem rune_4 (l : List UInt8) (k : Nat) (w : World) (hk : k < l.length) (h63 : l.length ≤ 4294967296) (hlo : 240 ≤ (l[k]).toNat) (hhi : (l[k]).toNat ≤ 244) :
    Calls Tryd.prog 84 #[.string ⟨l.toArray⟩, .int .i64 k] w (Ret w (.int .i64 (runeW (l.drop k)))) := by
  have HW := Lib.hid (runeW_4 l k hk hlo hhi)
  have HV := Lib.hid (vAt_le l k ((l[k]).toNat - 240) (by omega))
  obtain ⟨v0, hv0⟩ : ∃ v0, (l[k]).toNat - 240 = v0 := ⟨_, rfl⟩
  have hv0' : ((l[k]).toNat : Int) - 240 = (v0 : Int) := by omega
  rw [hv0] at HW HV
  have HV0 := Lib.hid hv0'
  clear hv0 hv0'
  generalize hb : l[k] = b at *
  have hg0 : (ByteArray.mk l.toArray)[k]'(by simpa [ByteArray.size] using hk) = b := by rw [ba_get]; exact hb
  have i0 : (0 : Int) ≤ k := by omega
  have i1 : (k : Int) < l.length := by omega
  have b1 : (240 : Int) ≤ b.toNat := by omega
  have b2 : (b.toNat : Int) ≤ 244 := by omega
  clear hb
  by_cases hlen : l.length < k + 4
  · have HR := Lib.hid (HW.out.1 hlen)
    have hd : decide ((l.length : Int) < (k : Int) + 4) = true := by simp; omega
    clear hlen
    go_enter Tryd.func84, Tryd.ntmps84
    go_wp2_with (fail)
    go_ret
    exact ⟨by rw [HR.out]; rfl, Below.refl _ _⟩
  · have hd : decide ((l.length : Int) < (k : Int) + 4) = false := by simp; omega
    go_enter Tryd.func84, Tryd.ntmps84
    go_wp2_with (fail)
    go_loopw [8, 9] (fun t8 t9 W => ∃ i : Nat, 1 ≤ i ∧ i ≤ 4 ∧ t9 = .int .i64 i ∧ t8 = .int .i64 (vAt l k v0 i) ∧ Hid (∀ j, 1 ≤ j → j < i → 128 ≤ (l.getD (k + j) 0).toNat ∧ (l.getD (k + j) 0).toNat ≤ 191) ∧ W = w) (fun _ t9 _ => 8 - (intOf t9).toNat)
    case atStart => exact ⟨1, by omega, by omega, rfl, by rw [vAt_one, ← HV0.out], Lib.hid (fun j h1 h2 => by omega), rfl⟩
    case round =>
      obtain ⟨i, hi1, hi2, rfl, rfl, HC, rfl⟩ := hrel
      have hvi := HV.out i hi1 (by omega)
      by_cases hin : i < 4
      · have hg : l.getD (k + i) 0 = l[k + i]'(by omega) := by simp [List.getD, show k + i < l.length by omega]
        have HG := Lib.hid hg
        have hn1 : ((k : Int) + i).toNat = k + i := by omega
        have hp1 : (0 : Int) ≤ (k : Int) + i := by omega
        have hp2 : (k : Int) + i < l.length := by omega
        have hw1 : IntKind.i64.wrap ((k : Int) + i) = (k : Int) + i := IntWalk.i64_in _ (by omega)
        clear hg
        generalize hcc : l[k + i]'(by omega) = c at *
        have hg1 : (ByteArray.mk l.toArray)[k + i]'(by simp [ByteArray.size]; omega) = c := by rw [ba_get]; exact hcc
        clear hcc
        have hcb := u8c c
        by_cases hc : 128 ≤ c.toNat ∧ c.toNat ≤ 191
        · obtain ⟨hc1, hc2⟩ := hc
          have hc1' : (128 : Int) ≤ c.toNat := by omega
          have hc2' : (c.toNat : Int) ≤ 191 := by omega
          have hs : ((vAt l k v0 i : Nat) : Int) * 64 + c.toNat - 128 = ((vAt l k v0 (i + 1) : Nat) : Int) := by rw [vAt_succ l k v0 i hi1, HG.out]; omega
          have HS := Lib.hid hs
          have HGV : Hid (vAt l k v0 (i + 1) = vAt l k v0 (i + 1)) := Lib.hid rfl
          clear hs HGV
          generalize vAt l k v0 i = v at *
          go_wp2_with (fail)
          go_roundw
          case rel => exact ⟨i + 1, by omega, by omega, by go_num, by rw [← HS.out], Lib.hid (fun j h1 h2 => by
            by_cases e : j = i
            · subst e; rw [HG.out]; exact ⟨hc1, hc2⟩
            · exact HC.out j h1 (by omega)), by first | trivial | rfl⟩
          case measure => simp [intOf]; omega
        · have hz := HW.out.2.1 i hi1 hin (by omega) (by rw [HG.out]; exact hc)
          have HZ := Lib.hid hz
          clear hz
          by_cases hc1 : c.toNat < 128
          · have hc1' : (c.toNat : Int) < 128 := by omega
            clear hc
            generalize vAt l k v0 i = v at *
            go_wp2_with (fail)
            go_ret
            exact ⟨by rw [HZ.out]; rfl, Below.refl _ _⟩
          · have hc1' : (128 : Int) ≤ c.toNat := by omega
            have hc2' : (191 : Int) < c.toNat := by omega
            clear hc
            generalize vAt l k v0 i = v at *
            go_wp2_with (fail)
            go_ret
            exact ⟨by rw [HZ.out]; rfl, Below.refl _ _⟩
      · obtain rfl : i = 4 := by omega
        have HZ := Lib.hid (HW.out.2.2 (by omega) HC.out)
        generalize vAt l k v0 4 = v at *
        have v63 : (v : Int) ≤ 16777215 := by omega
        by_cases q1 : v < 65536
        · have HF := Lib.hid (show finW 4 65536 v = 0 by unfold finW; rw [if_pos (by omega)])
          have q1' : (v : Int) < 65536 := by omega
          go_wp2_with (fail)
          go_ret
          exact ⟨by rw [HZ.out, HF.out]; rfl, Below.refl _ _⟩
        · have q1' : (65536 : Int) ≤ v := by omega
          by_cases q2 : 1114111 < v
          · have HF := Lib.hid (show finW 4 65536 v = 0 by unfold finW; rw [if_pos (by omega)])
            have q2' : (1114111 : Int) < v := by omega
            go_wp2_with (fail)
            go_ret
            exact ⟨by rw [HZ.out, HF.out]; rfl, Below.refl _ _⟩
          · have q2' : (v : Int) ≤ 1114111 := by omega
            by_cases q3 : 55296 ≤ v
            · have q3' : (55296 : Int) ≤ v := by omega
              by_cases q4 : v ≤ 57343
              · have HF := Lib.hid (show finW 4 65536 v = 0 by unfold finW; rw [if_pos (by omega)])
                have q4' : (v : Int) ≤ 57343 := by omega
                go_wp2_with (fail)
                go_ret
                exact ⟨by rw [HZ.out, HF.out]; rfl, Below.refl _ _⟩
              · have HF := Lib.hid (show finW 4 65536 v = 4 by unfold finW; rw [if_neg (by omega)])
                have q4' : (57343 : Int) < v := by omega
                go_wp2_with (fail)
                go_ret
                exact ⟨by rw [HZ.out, HF.out]; rfl, Below.refl _ _⟩
            · have HF := Lib.hid (show finW 4 65536 v = 4 by unfold finW; rw [if_neg (by omega)])
              have q3' : decide ((55296 : Int) ≤ (v : Int)) = false := by simp; omega
              clear q1 q2 q3
              go_wp2_with (fail)
              go_ret
              exact ⟨by rw [HZ.out, HF.out]; rfl, Below.refl _ _⟩

set_option maxRecDepth 100000 in
theorem rune_asc (l : List UInt8) (k : Nat) (w : World) (hk : k < l.length) (h63 : l.length ≤ 4294967296) (hhi : (l[k]).toNat < 128) :
    Calls Tryd.prog 84 #[.string ⟨l.toArray⟩, .int .i64 k] w (Ret w (.int .i64 (runeW (l.drop k)))) := by
  have HR := Lib.hid (runeW_asc l k (by simpa [List.getD, hk] using hhi))
  generalize hb : l[k] = b at *
  have hg0 : (ByteArray.mk l.toArray)[k]'(by simpa [ByteArray.size] using hk) = b := by rw [ba_get]; exact hb
  have i0 : (0 : Int) ≤ k := by omega
  have i1 : (k : Int) < l.length := by omega
  have b0 := u8c b
  have b2 : (b.toNat : Int) < 128 := by omega
  clear hb
  go_enter Tryd.func84, Tryd.ntmps84
  go_wp2_with (fail)
  go_ret
  exact ⟨by rw [HR.out]; rfl, Below.refl _ _⟩
set_option maxRecDepth 100000 in
theorem rune_bad1 (l : List UInt8) (k : Nat) (w : World) (hk : k < l.length) (h63 : l.length ≤ 4294967296) (hlo : 128 ≤ (l[k]).toNat) (hhi : (l[k]).toNat < 194) :
    Calls Tryd.prog 84 #[.string ⟨l.toArray⟩, .int .i64 k] w (Ret w (.int .i64 (runeW (l.drop k)))) := by
  have HR := Lib.hid (runeW_bad l k (by simp [List.getD, hk]; omega))
  generalize hb : l[k] = b at *
  have hg0 : (ByteArray.mk l.toArray)[k]'(by simpa [ByteArray.size] using hk) = b := by rw [ba_get]; exact hb
  have i0 : (0 : Int) ≤ k := by omega
  have i1 : (k : Int) < l.length := by omega
  have b1 : (128 : Int) ≤ b.toNat := by omega
  have b2 : (b.toNat : Int) < 194 := by omega
  clear hb
  go_enter Tryd.func84, Tryd.ntmps84
  go_wp2_with (fail)
  go_ret
  exact ⟨by rw [HR.out]; rfl, Below.refl _ _⟩
set_option maxRecDepth 100000 in
theorem rune_bad2 (l : List UInt8) (k : Nat) (w : World) (hk : k < l.length) (h63 : l.length ≤ 4294967296) (hlo : 245 ≤ (l[k]).toNat) :
    Calls Tryd.prog 84 #[.string ⟨l.toArray⟩, .int .i64 k] w (Ret w (.int .i64 (runeW (l.drop k)))) := by
  have HR := Lib.hid (runeW_bad l k (by simp [List.getD, hk]; omega))
  generalize hb : l[k] = b at *
  have hg0 : (ByteArray.mk l.toArray)[k]'(by simpa [ByteArray.size] using hk) = b := by rw [ba_get]; exact hb
  have i0 : (0 : Int) ≤ k := by omega
  have i1 : (k : Int) < l.length := by omega
  have b1 : (245 : Int) ≤ b.toNat := by omega
  have b2 := u8c b
  clear hb
  go_enter Tryd.func84, Tryd.ntmps84
  go_wp2_with (fail)
  go_ret
  exact ⟨by rw [HR.out]; rfl, Below.refl _ _⟩
theorem rune_any (l : List UInt8) (k : Nat) (w : World) (hk : k < l.length) (h63 : l.length ≤ 4294967296) :
    Calls Tryd.prog 84 #[.string ⟨l.toArray⟩, .int .i64 k] w (Ret w (.int .i64 (runeW (l.drop k)))) := by
  by_cases h1 : (l[k]).toNat < 128
  · exact rune_asc l k w hk h63 h1
  by_cases h2 : (l[k]).toNat < 194
  · exact rune_bad1 l k w hk h63 (by omega) h2
  by_cases h3 : (l[k]).toNat ≤ 223
  · exact rune_2 l k w hk h63 (by omega) h3
  by_cases h4 : (l[k]).toNat ≤ 239
  · exact rune_3 l k w hk h63 (by omega) h4
  by_cases h5 : (l[k]).toNat ≤ 244
  · exact rune_4 l k w hk h63 (by omega) h5
  exact rune_bad2 l k w hk h63 (by omega)

theorem Valid_ref (l : List UInt8) (w : World) (h63 : l.length ≤ 4294967296) :
    Calls Tryd.prog 71 #[.string ⟨l.toArray⟩] w (Ret w (.bool (Lib.validD l))) := by
  have hw0 := Lib.hid (Below.refl w.heap.size w)
  go_enter Tryd.func71, Tryd.ntmps71
  go_wp2_with (fail)
  go_loopw [3] (fun t3 W => ∃ k : Nat, k ≤ l.length ∧ t3 = .int .i64 k ∧ Hid (Below w.heap.size w W) ∧ Hid (Lib.validD l = Lib.validD (l.drop k))) (fun t3 _ => l.length - (intOf t3).toNat)
  case atStart => exact ⟨0, by omega, rfl, hw0, Lib.hid (by rw [List.drop_zero])⟩
  case round =>
    obtain ⟨k, hk, rfl, HB, HV⟩ := hrel
    have i0 : (0 : Int) ≤ k := by omega
    by_cases hlt : k < l.length
    · have i1 : (k : Int) < l.length := by omega
      have HC := Lib.hid (rune_any l k wr hlt h63)
      have hstep := HV.out
      rw [validD_rune l k hlt] at hstep
      have hle := runeW_le l k hlt
      generalize runeW (l.drop k) = n at *
      have HST := Lib.hid hstep
      clear hstep HV
      by_cases hn : n = 0
      · subst hn
        go_wp2_with (fail)
        refine HC.out.mono ?_
        rintro e w1 ⟨rfl, hw1⟩
        go_wp2_with (fail)
        go_ret
        exact ⟨by rw [HST.out]; rfl, HB.out.trans (hw1.mono HB.out.size)⟩
      · have i2 : ((n : Int) == 0) = false := by simp; omega
        go_wp2_with (fail)
        refine HC.out.mono ?_
        rintro e w1 ⟨rfl, hw1⟩
        have HB1 := Lib.hid (HB.out.trans (hw1.mono HB.out.size))
        clear hw1
        go_wp2_with (fail)
        go_roundw
        case rel => exact ⟨k + n, by omega, by go_num, HB1, Lib.hid (by rw [HST.out, if_neg hn])⟩
        case measure => simp [intOf]; omega
    · obtain rfl : k = l.length := by omega
      have hv := HV.out
      rw [List.drop_length] at hv
      have HV' := Lib.hid hv
      clear hv HV
      go_wp2_with (fail)
      go_ret
      exact ⟨by rw [HV'.out]; rfl, HB.out⟩
end Go.Proofs.YtjhjepkmcbjgoaaDoor
end

/- hawserref01: Name, Parts, Path. -/
section
namespace Go.Proofs.YtjhjepkmcbjgoaaDoor
open Go.RowKit Plain

theorem anyM_take (s : List UInt8) (k : Nat) (h : k < s.length) : anyM (s.take (k + 1)) = (anyM (s.take k) || s[k] == 47 || s[k] == 0) := by
  unfold anyM
  rw [List.take_succ_eq_append_getElem h]
  simp only [List.contains_append, List.contains_cons, List.contains_nil, Bool.or_false]
  rw [show ((47 : UInt8) == s[k]) = (s[k] == 47) by rw [Bool.eq_iff_iff]; simp only [beq_iff_eq]; exact eq_comm, show ((0 : UInt8) == s[k]) = (s[k] == 0) by rw [Bool.eq_iff_iff]; simp only [beq_iff_eq]; exact eq_comm]
  cases (s.take k).contains 47 <;> cases (s.take k).contains 0 <;> cases s[k] == 47 <;> cases s[k] == 0 <;> rfl
theorem anyM_le (s : List UInt8) (k : Nat) (h : anyM (s.take k) = true) : anyM s = true := by
  unfold anyM at h ⊢
  simp only [Bool.or_eq_true, List.contains_iff_mem] at h ⊢
  rcases h with h | h
  · exact .inl (List.mem_of_mem_take h)
  · exact .inr (List.mem_of_mem_take h)

theorem mem_sum : ∀ {l : List (List UInt8)} {x : List UInt8}, x ∈ l → x.length ≤ (l.map List.length).sum
  | [], _, h => by cases h
  | y :: l, x, h => by
    rcases List.mem_cons.1 h with rfl | h
    · simp
    · have := mem_sum h; simp; omega
set_option maxRecDepth 100000 in
set_option maxHeartbeats 2000000 in
theorem Name_ref (s : List UInt8) (w : World) (hs : s.length ≤ 9223372036854775806) :
    Calls Tryd.prog 51 #[.string ⟨s.toArray⟩] w (Ret w (.bool (nameOK s))) := by
  rw [nameOK_any]
  by_cases h1 : s.length ≤ 64
  · have hc1 : decide ((64 : Int) < s.length) = false := by simp; omega
    have hc1' : decide (s.length ≤ 64) = true := by simp; omega
    rw [hc1']
    have HV := Lib.hid (fun W => Valid_ref s W (by omega))
    obtain ⟨b0, h0⟩ : ∃ b, s.isEmpty = b := ⟨_, rfl⟩
    obtain ⟨b2, h2⟩ : ∃ b, (s == [46]) = b := ⟨_, rfl⟩
    obtain ⟨b3, h3⟩ : ∃ b, (s == [46, 46]) = b := ⟨_, rfl⟩
    rw [h0, h2, h3]
    clear hc1'
    cases b0 with
    | true =>
      have hl : s.length = 0 := by cases s <;> simp_all
      have hd : decide ((s.length : Int) < 1) = true := by simp; omega
      have HA := Lib.hid hl
      clear hl
      go_enter Tryd.func51, Tryd.ntmps51
      go_wp2_with (fail)
      go_ret
      exact ⟨rfl, Below.refl _ _⟩
    | false =>
      have hl : 1 ≤ s.length := by cases s <;> simp_all
      have hd : decide ((s.length : Int) < 1) = false := by simp; omega
      cases b2 with
      | true =>
        go_enter Tryd.func51, Tryd.ntmps51
        go_wp2_with (fail)
        go_ret
        exact ⟨rfl, Below.refl _ _⟩
      | false =>
        cases b3 with
        | true =>
          go_enter Tryd.func51, Tryd.ntmps51
          go_wp2_with (fail)
          go_ret
          exact ⟨rfl, Below.refl _ _⟩
        | false =>
          generalize Lib.validD s = bv at *
          cases bv with
          | false =>
            go_enter Tryd.func51, Tryd.ntmps51
            go_wp2_with (fail)
            refine (HV.out _).mono ?_
            rintro e w1 ⟨rfl, hw1⟩
            go_wp2_with (fail)
            go_ret
            exact ⟨rfl, hw1⟩
          | true =>
            go_enter Tryd.func51, Tryd.ntmps51
            go_wp2_with (fail)
            refine (HV.out _).mono ?_
            rintro e w1 ⟨rfl, hw1⟩
            go_wp2_with (fail)
            go_loopw [3] (fun t3 W => ∃ k : Nat, k ≤ s.length ∧ t3 = .int .i64 k ∧ Hid (anyM (s.take k) = false) ∧ W = w1) (fun t3 _ => s.length - (intOf t3).toNat)
            case atStart => exact ⟨0, by omega, rfl, Lib.hid rfl, rfl⟩
            case round =>
              obtain ⟨k, hk, rfl, HN, rfl⟩ := hrel
              have i0 : (0 : Int) ≤ k := by omega
              by_cases hlt : k < s.length
              · have i1 : (k : Int) < s.length := by omega
                have ht := anyM_take s k hlt
                rw [HN.out, Bool.false_or] at ht
                have hg : (ByteArray.mk s.toArray)[k]'(by simpa [ByteArray.size] using hlt) = s[k] := rfl
                generalize s[k] = x at *
                have HT := Lib.hid ht
                by_cases e1 : x = 0
                · have HA := Lib.hid (anyM_le s (k + 1) (by rw [ht, e1]; rfl))
                  have hB : ((x.toNat : Int) == 0) = true := by rw [e1]; rfl
                  clear ht e1
                  go_wp2_with (fail)
                  go_ret
                  exact ⟨by rw [HA.out]; rfl, hw1⟩
                · have hB : ((x.toNat : Int) == 0) = false := by simp; exact fun h => e1 (UInt8.toNat.inj (by simpa using h))
                  by_cases e2 : x = 47
                  · have HA := Lib.hid (anyM_le s (k + 1) (by rw [ht, e2]; rfl))
                    have hB2 : ((x.toNat : Int) == 47) = true := by rw [e2]; rfl
                    clear ht e1 e2
                    go_wp2_with (fail)
                    go_ret
                    exact ⟨by rw [HA.out]; rfl, hw1⟩
                  · have hB2 : ((x.toNat : Int) == 47) = false := by
                      simp only [beq_eq_false_iff_ne, ne_eq]
                      exact fun h => e2 (UInt8.toNat.inj (by simp; omega))
                    have HF := Lib.hid (show anyM (s.take (k + 1)) = false by rw [ht]; simp [e1, e2])
                    clear ht e1 e2
                    go_wp2_with (fail)
                    go_roundw
                    case rel => exact ⟨k + 1, by omega, by go_num, HF, by first | trivial | rfl⟩
                    case measure => simp [intOf]; omega
              · obtain rfl : k = s.length := by omega
                have hn := HN.out
                rw [List.take_of_length_le (Nat.le_refl _)] at hn
                have HX := Lib.hid hn
                clear hn HN
                go_wp2_with (fail)
                go_ret
                exact ⟨by rw [HX.out]; rfl, hw1⟩
  · have hc1 : decide ((64 : Int) < s.length) = true := by simp; omega
    have hc1' : decide (s.length ≤ 64) = false := by simp; omega
    rw [hc1']
    have hd : decide ((s.length : Int) < 1) = false := by simp; omega
    clear hc1'
    go_enter Tryd.func51, Tryd.ntmps51
    go_wp2_with (fail)
    go_ret
    exact ⟨by simp, Below.refl _ _⟩

set_option maxRecDepth 100000 in
set_option maxHeartbeats 2000000 in
theorem Parts_ref (s : List UInt8) (w : World) (hs : s.length ≤ 8796093022200) :
    Calls Tryd.prog 32 #[.string ⟨s.toArray⟩] w (StrsOut w (parts s)) := by
  obtain ⟨i0, hi, hz0, hz1, hz2⟩ := info_parts info_string
  show Calls _ _ _ _ (StrsOut w (cutAt 47 [] s))
  go_enter Tryd.func32, Tryd.ntmps32
  go_wp2_with (fail)
  go_loopw [3, 4, 5] (fun t3 t4 t5 W => ∃ (i f : Nat) (d : List (List UInt8)), i ≤ s.length + 1 ∧ f ≤ i ∧ d.length ≤ i ∧ t5 = .int .i64 i ∧ t4 = .int .i64 f ∧ W.ownsRow w.heap.size 9 1 t3 d.length (strs d) ∧
    Hid ((i ≤ s.length → cutAt 47 [] (s.take i) = d ++ [(s.take i).drop f]) ∧ (i = s.length + 1 → cutAt 47 [] s = d)) ∧ Hid (Below w.heap.size w W)) (fun _ _ t5 _ => s.length + 1 - (intOf t5).toNat)
  case atStart => exact ⟨0, 0, [], by omega, by omega, by simp, rfl, rfl, World.ownsRow_nil _ _ _ _, Lib.hid ⟨fun _ => by simp [cutAt], fun h => by omega⟩, Lib.hid (Below.refl _ _)⟩
  case round =>
    obtain ⟨i, f, d, hi1, hf, hd, rfl, rfl, hown, HC, HB⟩ := hrel
    have hsw := HB.out.size
    have hi0 : (0 : Int) ≤ i := by omega
    by_cases hlt : i < s.length
    · have q1 : decide ((i : Int) ≤ s.length) = true := by simp; omega
      have q2 : ((i : Int) == s.length) = false := by simp; omega
      have hsn := cutAt_snoc 47 [] s[i] _ _ _ (HC.out.1 (by omega))
      rw [← List.take_succ_eq_append_getElem hlt] at hsn
      have hdr : (s.take (i + 1)).drop f = (s.take i).drop f ++ [s[i]] := by
        rw [List.take_succ_eq_append_getElem hlt, List.drop_append_of_le_length (by simp; omega)]
      have hcut : (s.drop f).take (i - f) = (s.take i).drop f := by rw [List.drop_take]
      have i1 : (i : Int) < s.length := by omega
      have hgb : (ByteArray.mk s.toArray)[i]'(by simpa [ByteArray.size] using hlt) = s[i] := rfl
      generalize hc : s[i] = c at *
      have HCUT := Lib.hid hcut
      clear hcut
      by_cases h47 : c = 47
      · rw [if_pos h47, List.append_nil] at hsn
        have HSN := Lib.hid hsn
        have hB : ((c.toNat : Int) == 47) = true := by rw [h47]; rfl
        clear hsn h47 hdr
        generalize hpp : (s.drop f).take (i - f) = p at HCUT
        go_wp2_with (at_builtin; refine wpList_append_own _ rfl _ _ 60 rfl w.heap.size 9 i0 _ 1 16 Tryd.underlying60 hi hz0 hz1 hz2 rfl (by decide) _ _ _ rfl (hown.alloc _) ⟨wr.heap.size, 0, none⟩ 1 1 [.string ⟨p.toArray⟩] rfl rfl (laid_one _ _ _) (one_oneCell rfl) ?c3 ?c4 ?c5 ?_)
        case c3 => unfold maxLen; omega
        case c4 => omega
        case c5 => simp; omega
        intro v1 w1 hown1 hg1 _
        have hb1 : Below w.heap.size w w1 := (HB.out.alloc hsw _).grown hg1 (by simp; omega) (fun k hk => (hown.lt k hk).1)
        have hown2 : w1.ownsRow w.heap.size 9 1 v1 (d ++ [p]).length (strs (d ++ [p])) := by
          rw [strs_append, List.length_append]; exact hown1
        have HB1 := Lib.hid hb1
        clear hg1 hb1 hown1 hpp
        go_wp2_with (fail)
        go_roundw
        case rel =>
          refine ⟨i + 1, i + 1, d ++ [p], by omega, by omega, by simp; omega, by go_num, by go_num, hown2, Lib.hid ⟨fun _ => ?_, fun h => by omega⟩, HB1⟩
          have h1 := HSN.out
          rw [← HCUT.out] at h1
          rw [h1, List.drop_eq_nil_of_le (by simp; omega)]; simp
        case measure => simp [intOf]; omega
      · rw [if_neg h47, ← hdr] at hsn
        have HSN := Lib.hid hsn
        have hB : ((c.toNat : Int) == 47) = false := by
          simp only [beq_eq_false_iff_ne, ne_eq]
          intro e; exact h47 (UInt8.toNat.inj (by simp; omega))
        clear hsn h47 hdr
        go_wp2_with (fail)
        go_roundw
        case rel => exact ⟨i + 1, f, d, by omega, by omega, by omega, by go_num, rfl, hown, Lib.hid ⟨fun _ => HSN.out, fun h => by omega⟩, HB⟩
        case measure => simp [intOf]; omega
    · by_cases he : i = s.length
      · have q1 : decide ((i : Int) ≤ s.length) = true := by simp; omega
        have q2 : ((i : Int) == s.length) = true := by simp; omega
        have hcs := HC.out.1 (by omega)
        have hcut : (s.drop f).take (i - f) = (s.take i).drop f := by rw [List.drop_take]
        rw [← hcut] at hcs
        rw [he, List.take_of_length_le (Nat.le_refl _), ← he] at hcs
        have HCS := Lib.hid hcs
        have i1 : (i : Int) ≤ s.length := by omega
        have HE := Lib.hid he
        clear hcs hcut he
        generalize hpp : (s.drop f).take (i - f) = p at HCS
        go_wp2_with (at_builtin; refine wpList_append_own _ rfl _ _ 60 rfl w.heap.size 9 i0 _ 1 16 Tryd.underlying60 hi hz0 hz1 hz2 rfl (by decide) _ _ _ rfl (hown.alloc _) ⟨wr.heap.size, 0, none⟩ 1 1 [.string ⟨p.toArray⟩] rfl rfl (laid_one _ _ _) (one_oneCell rfl) ?d3 ?d4 ?d5 ?_)
        case d3 => unfold maxLen; omega
        case d4 => omega
        case d5 => simp; omega
        intro v1 w1 hown1 hg1 _
        have hb1 : Below w.heap.size w w1 := (HB.out.alloc hsw _).grown hg1 (by simp; omega) (fun k hk => (hown.lt k hk).1)
        have hown2 : w1.ownsRow w.heap.size 9 1 v1 (d ++ [p]).length (strs (d ++ [p])) := by
          rw [strs_append, List.length_append]; exact hown1
        have HB1 := Lib.hid hb1
        clear hg1 hb1 hown1 hpp
        go_wp2_with (fail)
        go_roundw
        case rel => exact ⟨i + 1, i + 1, d ++ [p], by have := HE.out; omega, by omega, by simp; omega, by go_num, by go_num, hown2, Lib.hid ⟨fun h => by have := HE.out; omega, fun _ => HCS.out⟩, HB1⟩
        case measure => have := HE.out; simp [intOf]; omega
      · have hi' : i = s.length + 1 := by omega
        have q1 : decide ((i : Int) ≤ s.length) = false := by simp; omega
        have q1n : decide (i ≤ s.length) = false := by simp; omega
        have q1i : (s.length : Int) < i := by omega
        have hcs := HC.out.2 hi'
        have HCS := Lib.hid hcs
        obtain ⟨A, c, rfl, hc, hm, hr, hA0⟩ := of_own0 hown
        have HR := Lib.hid hr
        clear hown hr hcs hi' he
        go_wp2_with (fail)
        go_ret
        exact ⟨A, c, by rw [HCS.out]; rfl, by rw [HCS.out]; exact hc, hm, by rw [HCS.out]; exact HR.out, HB.out, hA0⟩

set_option maxRecDepth 100000 in
set_option maxHeartbeats 2000000 in
theorem Path_ref (s : List UInt8) (w : World) (hs : s.length ≤ 8796093022200) :
    Calls Tryd.prog 31 #[.string ⟨s.toArray⟩] w (Ret w (.bool (pathOK s))) := by
  have HP := Lib.hid (Parts_ref s w hs)
  have hpl := parts_length s
  have hcl := List.count_le_length (a := (47 : UInt8)) (l := s)
  unfold pathOK
  by_cases h1 : s.length ≤ 400
  · have q1 : decide ((400 : Int) < s.length) = false := by simp; omega
    have hmem : ∀ x ∈ parts s, x.length ≤ 9223372036854775806 := fun x hx => by
      have hj := join_length (parts s)
      rw [join_parts] at hj
      have := mem_sum hx
      omega
    rw [decide_eq_true h1, Bool.true_and]
    have HME := Lib.hid hmem
    clear hmem
    generalize parts s = l at *
    by_cases h2 : l.length ≤ 16
    · have q2 : decide ((16 : Int) < l.length) = false := by simp; omega
      rw [decide_eq_true h2, Bool.true_and]
      go_enter Tryd.func31, Tryd.ntmps31
      go_wp2_with (fail)
      refine HP.out.mono ?_
      rintro e w1 ⟨A, c, rfl, hc, hm, hr, hw1, hA0⟩
      have HR := Lib.hid hr
      clear hr
      go_wp2_with (fail)
      go_loopw [4] (fun t4 W => ∃ k : Nat, k ≤ l.length ∧ t4 = .int .i64 k ∧ Hid ((l.take k).all nameOK = true) ∧ Hid (Below w1.heap.size w1 W)) (fun t4 _ => l.length - (intOf t4).toNat)
      case atStart => exact ⟨0, by omega, rfl, Lib.hid rfl, Lib.hid (Below.refl _ _)⟩
      case round =>
        obtain ⟨k, hk, rfl, HN, HB⟩ := hrel
        have i0 : (0 : Int) ≤ k := by omega
        have hbel := HB.out
        by_cases hlt : k < l.length
        · obtain ⟨ad, rfl, cS⟩ := (HR.out.below hbel).str_at hlt
          have i1 : (k : Int) < l.length := by omega
          have ht : (l.take (k + 1)).all nameOK = nameOK l[k] := by
            rw [List.take_succ_eq_append_getElem hlt, List.all_append, HN.out]; simp
          have HMM := Lib.hid (List.getElem_mem hlt)
          have hN := Name_ref l[k] wr (HME.out _ (List.getElem_mem hlt))
          have hall : l.all nameOK = true → nameOK l[k] = true := fun h => List.all_eq_true.1 h _ (List.getElem_mem hlt)
          generalize l[k] = x at *
          have HT := Lib.hid ht
          have HALL := Lib.hid hall
          clear hbel ht hall
          cases hx : nameOK x with
          | true =>
            rw [hx] at hN HT
            have HNN := Lib.hid hN
            clear hN hx
            go_wp2_with (fail)
            refine HNN.out.mono ?_
            rintro e w2 ⟨rfl, hw2⟩
            have HB2 := Lib.hid (HB.out.trans (hw2.mono HB.out.size))
            clear hw2
            go_wp2_with (fail)
            go_roundw
            case rel => exact ⟨k + 1, by omega, by go_num, HT, HB2⟩
            case measure => simp [intOf]; omega
          | false =>
            rw [hx] at hN
            have HNN := Lib.hid hN
            have HF := Lib.hid (show l.all nameOK = false by
              rw [← Bool.not_eq_true]; intro h; have := HALL.out h; rw [hx] at this; cases this)
            clear hN hx
            go_wp2_with (fail)
            refine HNN.out.mono ?_
            rintro e w2 ⟨rfl, hw2⟩
            go_wp2_with (fail)
            go_ret
            exact ⟨by rw [HF.out]; rfl, hw1.trans ((HB.out.trans (hw2.mono HB.out.size)).mono hw1.size)⟩
        · obtain rfl : k = l.length := by omega
          have hn := HN.out
          rw [List.take_of_length_le (Nat.le_refl _)] at hn
          have HX := Lib.hid hn
          clear hn HN hbel
          go_wp2_with (fail)
          go_ret
          exact ⟨by rw [HX.out]; rfl, hw1.trans (HB.out.mono hw1.size)⟩
    · have q2 : decide ((16 : Int) < l.length) = true := by simp; omega
      rw [decide_eq_false h2, Bool.false_and]
      go_enter Tryd.func31, Tryd.ntmps31
      go_wp2_with (fail)
      refine HP.out.mono ?_
      rintro e w1 ⟨A, c, rfl, hc, hm, hr, hw1, hA0⟩
      go_wp2_with (fail)
      go_ret
      exact ⟨rfl, hw1⟩
  · have q1 : decide ((400 : Int) < s.length) = true := by simp; omega
    rw [decide_eq_false h1, Bool.false_and, Bool.false_and]
    generalize parts s = l at *
    go_enter Tryd.func31, Tryd.ntmps31
    go_wp2_with (fail)
    refine HP.out.mono ?_
    rintro e w1 ⟨A, c, rfl, hc, hm, hr, hw1, hA0⟩
    go_wp2_with (fail)
    go_ret
    exact ⟨rfl, hw1⟩
end Go.Proofs.YtjhjepkmcbjgoaaDoor
end
