/- Texts joined: Glob4, Maps, Glob5, Glob6. -/
import Derived.Test.YtjhjepkmcbjgoaaDoorBPlanBase15
import Derived.Test.YtjhjepkmcbjgoaaDoorBPlanBase11
import Derived.Maps.Own
import Derived.Maps.Keyed
import Derived.DeepKeys4
set_option linter.unusedSimpArgs false
set_option linter.unusedVariables false

/- glob.one, glob.part. -/
section
set_option linter.unusedVariables false
namespace Go.Proofs.YtjhjepkmcbjgoaaDoor
open Go.RowKit Plain

theorem dec_any_valid (l : List UInt8) (hne : l ≠ []) (hv : Lib.validD l = true) (w : World) (hT : Tabs w) :
    Calls Tryd.prog 45 #[.string ⟨l.toArray⟩] w (Ret w (.tuple #[.int .i32 (valR (runeT l) : Nat), .int .i64 (runeW l : Nat)])) := by
  have h := Decode_any l hne w hT
  rw [dec_valid hne hv] at h
  exact h
theorem one_q (q r : List UInt8) : oneP (63 :: q) r = (true, 1) := rfl
theorem one_back (q r : List UInt8) : oneP (92 :: q) r = (runeT q == r, 1 + runeW q) := rfl
theorem one_set {q : List UInt8} {e : Nat} (r : List UInt8) (h : closeP (91 :: q) = some e) : oneP (91 :: q) r = (holdsP (((91 :: q).take e).drop 1) r, e + 1) := by
  show (match closeP (91 :: q) with
      | some e => (holdsP (((91 :: q).take e).drop 1) r, e + 1)
      | none => (false, 1)) = _
  rw [h]
theorem one_plain {c : UInt8} {q : List UInt8} (r : List UInt8) (h1 : c ≠ 63) (h2 : c ≠ 92) (h3 : c ≠ 91) : oneP (c :: q) r = (runeT (c :: q) == r, runeW (c :: q)) := by
  unfold oneP
  simp only
  rw [if_neg h1, if_neg h2, if_neg h3]

def OneOut (p t : List UInt8) (w : World) (e : Ending) (w' : World) : Prop := Ret w (.tuple #[.bool (oneP p t).1, .string ⟨(p.drop (oneP p []).2).toArray⟩]) e w'

set_option maxHeartbeats 2000000 in
theorem one_any (c : UInt8) (q t : List UInt8) (w : World) (hT : Tabs w) (hv : Lib.validD (c :: q) = true) (hw : wfP (c :: q) = true) (ht : IsRune t) (hs : (c :: q).length ≤ 65536) :
    Calls Tryd.prog 46 #[.string ⟨(c :: q : List UInt8).toArray⟩, .int .i32 (valR t : Nat)] w (OneOut (c :: q) t w) := by
  unfold OneOut
  have hql : q.length ≤ 65536 := by simp at hs; omega
  by_cases h63 : c = 63
  · subst h63
    rw [one_q, one_q]
    generalize valR t = r at *
    clear hv hw hT ht
    go_enter Tryd.func46, Tryd.ntmps46
    go_wp2_with (fail)
    refine wp_region_below (by kernel_rfl) (by kernel_rfl) ?_
    repeat (go_big_quiet_step (fail))
    refine wpQuiet_nil ?_
    intro W2 hW2
    go_wp2_with (fail)
    go_ret2
    exact ⟨rfl, hW2⟩
  by_cases h91 : c = 91
  · subst h91
    obtain ⟨e, he, hw2⟩ := wfP_set hw
    obtain ⟨a1, a2, a3, a4⟩ := inner_valid hv he
    rw [one_set t he, one_set [] he]
    have hset := set_any q w (by simp; omega)
    have hhold := fun W => holds_any (((91 :: q).take e).drop 1) t W a3 ht (by simp; omega)
    have HS := Lib.hid hset
    have HH := Lib.hid hhold
    have HE := Lib.hid he
    clear hset hhold he hw2 a1 a2 a3 a4 hv hw hT ht h63
    generalize valR t = r at *
    generalize hin : ((91 :: q : List UInt8).take e).drop 1 = ii at *
    generalize hrr : (91 :: q : List UInt8).drop (e + 1) = rr at *
    have HIN := Lib.hid hin
    have HRR := Lib.hid hrr
    clear hin hrr
    go_enter Tryd.func46, Tryd.ntmps46
    go_wp2_with (fail)
    refine HS.out.mono ?_
    rintro ee w1 ⟨h1, _, hw1⟩
    obtain rfl := h1 e HE.out
    rw [HIN.out, HRR.out]
    clear h1
    go_wp2_with (fail)
    refine (HH.out _).mono ?_
    rintro ee w2 ⟨rfl, hw2⟩
    go_wp2_with (fail)
    go_ret2
    exact ⟨rfl, hw1.trans (hw2.mono hw1.size)⟩
  by_cases h92 : c = 92
  · subst h92
    cases q with
    | nil => rw [wfP_back_nil] at hw; cases hw
    | cons d q =>
      rw [Lib.validD_cons _ _ (by decide)] at hv
      have hne : (d :: q) ≠ [] := by simp
      obtain ⟨hw1, _⟩ := valid_next hne hv
      have hr1 := (runeT_rune hne hw1).1
      have hD := fun W (hb : Below w.heap.size w W) => dec_any_valid (d :: q) hne hv W (Utf8Tabs_below hT hb)
      have hsame := rune_same hr1 ht
      have hlen := runeW_le' hne
      rw [one_back, one_back, Nat.add_comm 1, List.drop_succ_cons]
      simp only
      rw [hsame]
      have hqd : ((d :: q).drop (runeW (d :: q))).take (q.length + 1 - runeW (d :: q)) = (d :: q).drop (runeW (d :: q)) := List.take_of_length_le (by simp)
      have hz : (0 : Int) ≤ (runeW (d :: q) : Int) := by omega
      generalize valR (runeT (d :: q)) = v at *
      generalize runeW (d :: q) = k at *
      generalize valR t = r at *
      have heq : ((v : Int) == (r : Int)) = (v == r) := by rw [Bool.eq_iff_iff, beq_iff_eq, beq_iff_eq]; omega
      generalize (v == r) = b at *
      have HD := Lib.hid hD
      have hkl : (k : Int) ≤ (q.length : Int) + 1 := by simp at hlen; omega
      clear hD hT hv hw ht hr1 hsame hw1 hne h63 h91
      generalize hdd : (d :: q).drop k = dd at *
      have HDD := Lib.hid hdd
      go_enter Tryd.func46, Tryd.ntmps46
      go_wp2_with (fail)
      refine (HD.out _ (Below.refl _ _)).mono ?_
      rintro ee w1 ⟨rfl, hw1⟩
      go_wp2_with (fail)
      refine wp_region_below (by kernel_rfl) (by kernel_rfl) ?_
      repeat (go_big_quiet_step (fail))
      refine wpQuiet_nil ?_
      intro W2 hW2
      go_wp2_with (fail)
      go_ret2
      exact ⟨rfl, hw1.trans (hW2.mono hw1.size)⟩
  · rw [one_plain t h63 h92 h91, one_plain [] h63 h92 h91]
    have hne : (c :: q) ≠ [] := by simp
    obtain ⟨hw1, _⟩ := valid_next hne hv
    have hr1 := (runeT_rune hne hw1).1
    have hD := fun W (hb : Below w.heap.size w W) => dec_any_valid (c :: q) hne hv W (Utf8Tabs_below hT hb)
    have hsame := rune_same hr1 ht
    have hlen := runeW_le' hne
    simp only
    rw [hsame]
    have h63' := u8_ne (n := 63) (by omega) h63
    have h92' := u8_ne (n := 92) (by omega) h92
    have h91' := u8_ne (n := 91) (by omega) h91
    have hqd : ((c :: q).drop (runeW (c :: q))).take (q.length + 1 - runeW (c :: q)) = (c :: q).drop (runeW (c :: q)) := List.take_of_length_le (by simp)
    have hz : (0 : Int) ≤ (runeW (c :: q) : Int) := by omega
    generalize valR (runeT (c :: q)) = v at *
    generalize runeW (c :: q) = k at *
    generalize valR t = r at *
    have heq : ((v : Int) == (r : Int)) = (v == r) := by rw [Bool.eq_iff_iff, beq_iff_eq, beq_iff_eq]; omega
    generalize (v == r) = b at *
    have HD := Lib.hid hD
    have hkl : (k : Int) ≤ (q.length : Int) + 1 := by simp at hlen; omega
    clear hD hT hv hw ht hr1 hsame hw1 hne h63 h91 h92
    generalize hdd : (c :: q).drop k = dd at *
    have HDD := Lib.hid hdd
    go_enter Tryd.func46, Tryd.ntmps46
    go_wp2_with (fail)
    refine (HD.out _ (Below.refl _ _)).mono ?_
    rintro ee w1 ⟨rfl, hw1⟩
    go_wp2_with (fail)
    refine wp_region_below (by kernel_rfl) (by kernel_rfl) ?_
    repeat (go_big_quiet_step (fail))
    refine wpQuiet_nil ?_
    intro W2 hW2
    go_wp2_with (fail)
    go_ret2
    exact ⟨rfl, hw1.trans (hW2.mono hw1.size)⟩

theorem dropWhile_all (c : UInt8) : ∀ (l : List UInt8), (l.dropWhile (· == c)).isEmpty = l.all (· == c)
  | [] => rfl
  | x :: l => by
    rw [List.dropWhile_cons, List.all_cons]
    cases h : x == c with
    | true => rw [if_pos rfl, Bool.true_and]; exact dropWhile_all c l
    | false => rw [if_neg (by decide)]; rfl
theorem trimB_star (p : List UInt8) : (Lib.trimB p 42).isEmpty = p.all (· == 42) := by
  unfold Lib.trimB Lib.trimLeftB
  rw [dropWhile_all]
  unfold Lib.trimRightB
  rw [List.all_reverse]
  have h : ∀ l : List UInt8, (l.dropWhile (· == 42)).all (· == 42) = l.all (· == 42) := by
    intro l
    induction l with
    | nil => rfl
    | cons x l ih =>
      rw [List.dropWhile_cons, List.all_cons]
      cases h : x == 42 with
      | true => rw [if_pos rfl, Bool.true_and]; exact ih
      | false => rw [if_neg (by decide), List.all_cons, h]
  rw [h, List.all_reverse]
def starOf : Value → Bool
  | .bool b => b
  | _ => false
def partMeas (P N ta tf tn : Nat) (star : Bool) : Nat := (if star then ta else P + 1) * ((N + 1) * (N + 1)) + (tf * (N + 1) + tn)
theorem meas_star {P N ta tf tn tn' ta' tf' : Nat} {star : Bool} (h : ta' < (if star then ta else P + 1)) (hf : tf' ≤ N) (hn : tn' ≤ N) : partMeas P N ta' tf' tn' true < partMeas P N ta tf tn star := by
  unfold partMeas
  rw [if_pos rfl]
  generalize (if star then ta else P + 1) = a at *
  have h1 : (ta' + 1) * ((N + 1) * (N + 1)) ≤ a * ((N + 1) * (N + 1)) := Nat.mul_le_mul_right _ h
  rw [Nat.add_mul, Nat.one_mul] at h1
  have h2 : tf' * (N + 1) ≤ N * (N + 1) := Nat.mul_le_mul_right _ hf
  have h3 : (N + 1) * (N + 1) = N * (N + 1) + (N + 1) := by rw [Nat.add_mul, Nat.one_mul]
  generalize (N + 1) * (N + 1) = M at *
  omega
theorem meas_back {P N ta tf tn tn' tf' : Nat} {star : Bool} (hf : tf' < tf) (hn : tn' ≤ N) : partMeas P N ta tf' tn' star < partMeas P N ta tf tn star := by
  unfold partMeas
  have h1 : (tf' + 1) * (N + 1) ≤ tf * (N + 1) := Nat.mul_le_mul_right _ hf
  rw [Nat.add_mul, Nat.one_mul] at h1
  omega
theorem meas_one {P N ta tf tn tn' : Nat} {star : Bool} (hn : tn' < tn) : partMeas P N ta tf tn' star < partMeas P N ta tf tn star := by
  unfold partMeas
  omega

set_option maxHeartbeats 4000000 in
set_option maxRecDepth 100000 in
theorem part_any (p0 n0 : List UInt8) (w : World) (hT : Tabs w) (hv : Lib.validD p0 = true) (hw : wfP p0 = true) (hn : Lib.validD n0 = true) (hp : p0.length ≤ 65536) (hnl : n0.length ≤ 65536) :
    Calls Tryd.prog 28 #[.string ⟨p0.toArray⟩, .string ⟨n0.toArray⟩] w (Ret w (.bool (partP p0 n0))) := by
  have hS := PSt.start hv hw hn
  have HT := Lib.hid (fun W (hb : Below w.heap.size w W) => Utf8Tabs_below hT hb)
  generalize hres : partP p0 n0 = res
  have HRES := Lib.hid hres
  have HS := Lib.hid hS
  have HPRE := Lib.hid (fun (p : List UInt8) (W : World) => Tryd.strings_HasPrefix ⟨p.toArray⟩ ⟨[(42 : UInt8)].toArray⟩ W)
  clear hres hS hT hv hw hn
  go_enter Tryd.func28, Tryd.ntmps28
  go_wp2_with (fail)
  go_loopw [0, 1, 5, 6, 7] (fun t0 t1 t5 t6 t7 W => ∃ (p n again fr : List UInt8) (star : Bool), t0 = .string ⟨p.toArray⟩ ∧ t1 = .string ⟨n.toArray⟩ ∧ t5 = .string ⟨again.toArray⟩ ∧ t6 = .string ⟨fr.toArray⟩ ∧ t7 = .bool star ∧ Hid (PSt p0 n0 p n again fr star) ∧ Hid (star = true → p.length ≤ again.length) ∧ Hid (Below w.heap.size w W))
    (fun _ t1 t5 t6 t7 _ => partMeas p0.length n0.length (strLenG t5) (strLenG t6) (strLenG t1) (starOf t7))
  case atStart => exact ⟨p0, n0, [], [], false, rfl, rfl, rfl, rfl, rfl, HS, Lib.hid (fun h => by cases h), Lib.hid (Below.refl _ _)⟩
  case round =>
    obtain ⟨p, n, again, fr, star, rfl, rfl, rfl, rfl, rfl, HP, HPA, HB⟩ := hrel
    clear HS
    have hlp := HP.out.lp
    have hln := HP.out.ln
    have hlf := HP.out.lf
    have hla := HP.out.la
    have HLF := Lib.hid hlf
    by_cases hn0 : n = []
    · subst hn0
      have hfin := HP.out.fin
      have htr := Tryd.strings_Trim_one ⟨p.toArray⟩ 42 (by decide) wr (by simp [ByteArray.size]; omega)
      have hts := trimB_star p
      rw [show (ByteArray.mk p.toArray).data.toList = p from rfl] at htr
      generalize Lib.trimB p 42 = tr at *
      have HTR := Lib.hid htr
      have HF := Lib.hid (show tr.isEmpty = res by rw [hts, ← hfin]; exact HRES.out)
      clear htr hts hfin
      go_wp2_with (fail)
      refine HTR.out.mono ?_
      rintro e w1 ⟨rfl, hw1⟩
      have hb1 : Below wr.heap.size wr w1 := by rcases hw1 with rfl | rfl; exact Below.refl _ _; exact (Below.refl _ _).drew
      clear hw1
      go_wp2_with (fail)
      go_ret
      exact ⟨by rw [← HF.out]; rfl, HB.out.trans (hb1.mono HB.out.size)⟩
    have hne : n.isEmpty = false := by cases n; exact absurd rfl hn0; rfl
    have hpre := HPRE.out p
    rcases (show (∃ q, p = 42 :: q) ∨ (∀ c q, p = c :: q → c ≠ 42) from by
      cases p with
      | nil => exact .inr (fun c q e => by cases e)
      | cons c q =>
        by_cases h : c = 42
        · exact .inl ⟨q, by rw [h]⟩
        · exact .inr (fun c' q' e => by injection e with e _; rw [← e]; exact h)) with ⟨q, rfl⟩ | hc
    · have HP2 := Lib.hid HP.out.star
      have hpr : ∀ W, Calls Tryd.prog 44 #[.string ⟨(42 :: q : List UInt8).toArray⟩, .string ⟨#[42]⟩] W (Ret W (.bool true)) := fun W => (hpre W).mono fun _ _ ⟨he, hw⟩ => ⟨he, hw ▸ Below.refl _ _⟩
      have HPR := Lib.hid hpr
      have hql : q.length + 1 ≤ p0.length := by simpa using hlp
      have HM := Lib.hid (show q.length < (if star then again.length else p0.length + 1) by
        cases star with
        | true => have := HPA.out rfl; simp at this; rw [if_pos rfl]; omega
        | false => rw [if_neg (by decide)]; omega)
      clear hpre hpr hn0 hla hlf hlp
      go_wp2_with (fail)
      refine (HPR.out _).mono ?_
      rintro e w1 ⟨rfl, hw1⟩
      have HB1 := Lib.hid (HB.out.trans (hw1.mono HB.out.size))
      clear hw1
      go_wp2_with (fail)
      go_roundw
      case rel => exact ⟨q, n, q, n, true, rfl, rfl, rfl, rfl, rfl, HP2, Lib.hid (fun _ => Nat.le_refl _), HB1⟩
      case measure =>
        have := meas_star (P := p0.length) (N := n0.length) (tf := fr.length) (tn := n.length) HM.out hln hln
        simpa [strLenG, starOf, ByteArray.size] using this
    · obtain ⟨r1, r2⟩ := valid_next hn0 HP.out.vn
      have hrr := (runeT_rune hn0 r1).1
      have hpr : ∀ W, Calls Tryd.prog 44 #[.string ⟨p.toArray⟩, .string ⟨#[42]⟩] W (Ret W (.bool false)) := fun W => (hpre W).mono fun _ _ ⟨he, hw⟩ => ⟨by
        rw [he]
        congr 2
        show [(42 : UInt8)].isPrefixOf p = false
        cases p with
        | nil => rfl
        | cons c q =>
          rw [← Bool.not_eq_true, List.isPrefixOf_iff_prefix]
          rintro ⟨t, e⟩
          injection e with e _
          exact hc c q rfl e.symm, hw ▸ Below.refl _ _⟩
      have HPR := Lib.hid hpr
      have hdec := fun W (hb : Below w.heap.size w W) => dec_any_valid n hn0 HP.out.vn W (HT.out W hb)
      have hwl := runeW_le' hn0
      have HN0 := Lib.hid hn0
      have HDEC := Lib.hid hdec
      clear hpre hpr hdec r2
      cases p with
      | nil =>
        cases star with
        | false =>
          have HF := Lib.hid (show res = false by rw [← HRES.out]; exact HP.out.fail hn0 (.inl rfl))
          clear hn0 hrr hwl r1 hc
          generalize valR (runeT n) = v at *
          generalize runeW n = k at *
          go_wp2_with (fail)
          refine (HPR.out _).mono ?_
          rintro e w1 ⟨rfl, hw1⟩
          have hB1 := HB.out.trans (hw1.mono HB.out.size)
          clear hw1
          go_wp2_with (fail)
          refine (HDEC.out _ hB1).mono ?_
          rintro e w2 ⟨rfl, hw2⟩
          have hB2 := hB1.trans (hw2.mono hB1.size)
          clear hw2 hB1
          go_wp2_with (fail)
          go_ret
          exact ⟨by rw [HF.out]; rfl, hB2⟩
        | true =>
          obtain ⟨f1, f2, hS2⟩ := HP.out.back hn0 (.inl rfl)
          have HS2 := Lib.hid hS2
          have hfd := fun W (hb : Below w.heap.size w W) => dec_any_valid fr f1 HP.out.vf W (HT.out W hb)
          have HFD := Lib.hid hfd
          have hfl := runeW_le' f1
          have hz2 : (0 : Int) ≤ (runeW fr : Int) := by omega
          clear hS2 hfd f1 hn0 hrr hwl r1 hc
          generalize valR (runeT n) = v at *
          generalize runeW n = k at *
          generalize valR (runeT fr) = v2 at *
          generalize hk2 : runeW fr = k2 at *
          generalize hff : fr.drop k2 = fr2 at *
          have HFF := Lib.hid hff
          have hfr2 : fr2.length < fr.length := by rw [← hff]; simp; omega
          have htk2 : fr2.take (fr.length - k2) = fr2 := List.take_of_length_le (by rw [← hff]; simp)
          go_wp2_with (fail)
          refine (HPR.out _).mono ?_
          rintro e w1 ⟨rfl, hw1⟩
          have hB1 := HB.out.trans (hw1.mono HB.out.size)
          clear hw1
          go_wp2_with (fail)
          refine (HDEC.out _ hB1).mono ?_
          rintro e w2 ⟨rfl, hw2⟩
          have hB2 := hB1.trans (hw2.mono hB1.size)
          clear hw2 hB1
          go_wp2_with (fail)
          refine (HFD.out _ hB2).mono ?_
          rintro e w3 ⟨rfl, hw3⟩
          have HB3 := Lib.hid (hB2.trans (hw3.mono hB2.size))
          clear hw3 hB2
          go_wp2_with (fail)
          go_roundw
          case rel => exact ⟨again, fr2, again, fr2, true, rfl, rfl, rfl, rfl, rfl, HS2, Lib.hid (fun _ => Nat.le_refl _), HB3⟩
          case measure =>
            have := meas_back (P := p0.length) (N := n0.length) (ta := again.length) (tn := n.length) (star := true) hfr2 (show fr2.length ≤ n0.length by have := HLF.out; omega)
            simpa [strLenG, starOf, ByteArray.size] using this
      | cons c q =>
        have hc42 := hc c q rfl
        have hone := fun W (hb : Below w.heap.size w W) => one_any c q (runeT n) W (HT.out W hb) HP.out.vp HP.out.wp hrr (by omega)
        have hst1 := fun h => HP.out.one (c := c) (q := q) hc42 hn0 h
        unfold OneOut at hone
        have hle1 : ((c :: q).drop (oneP (c :: q) []).2).length ≤ (c :: q).length := by rw [List.length_drop]; omega
        have hno : (oneP (c :: q) (runeT n)).1 = false → ((c :: q) = [] ∨ ∃ c' q', (c :: q) = c' :: q' ∧ c' ≠ 42 ∧ (oneP (c :: q) (runeT n)).1 = false) := fun h => .inr ⟨c, q, rfl, hc42, h⟩
        generalize hrest : (c :: q).drop (oneP (c :: q) []).2 = rest at *
        cases ho : (oneP (c :: q) (runeT n)).1 with
        | true =>
          rw [ho] at hone
          have HONE := Lib.hid hone
          have HST := Lib.hid (hst1 ho)
          have HLE := Lib.hid hle1
          have hz : (0 : Int) ≤ (runeW n : Int) := by omega
          clear hone hst1 ho hno hrest hn0 hrr hc hc42
          generalize valR (runeT n) = v at *
          generalize hk : runeW n = k at *
          generalize hnn : n.drop k = n2 at *
          have HNN := Lib.hid hnn
          have hn2 : n2.length < n.length := by rw [← hnn]; simp; omega
          have htk : n2.take (n.length - k) = n2 := List.take_of_length_le (by rw [← hnn]; simp)
          go_wp2_with (fail)
          refine (HPR.out _).mono ?_
          rintro e w1 ⟨rfl, hw1⟩
          have hB1 := HB.out.trans (hw1.mono HB.out.size)
          clear hw1
          go_wp2_with (fail)
          refine (HDEC.out _ hB1).mono ?_
          rintro e w2 ⟨rfl, hw2⟩
          have hB2 := hB1.trans (hw2.mono hB1.size)
          clear hw2 hB1
          go_wp2_with (fail)
          refine (HONE.out _ hB2).mono ?_
          rintro e w3 ⟨rfl, hw3⟩
          have hB3 := hB2.trans (hw3.mono hB2.size)
          clear hw3 hB2
          go_wp2_with (fail)
          refine wp_region_below (by kernel_rfl) (by kernel_rfl) ?_
          repeat (go_big_quiet_step (fail))
          refine wpQuiet_nil ?_
          intro W4 hW4
          have HB4 := Lib.hid (hB3.trans (hW4.mono hB3.size))
          clear hW4 hB3
          go_wp2_with (fail)
          go_roundw
          case rel => exact ⟨rest, n2, again, fr, star, rfl, rfl, rfl, rfl, rfl, HST, Lib.hid (fun h => Nat.le_trans HLE.out (HPA.out h)), HB4⟩
          case measure =>
            have := meas_one (P := p0.length) (N := n0.length) (ta := again.length) (tf := fr.length) (star := star) hn2
            simpa [strLenG, starOf, ByteArray.size] using this
        | false =>
          rw [ho] at hone
          have HONE := Lib.hid hone
          have hno := hno ho
          clear hone hst1 ho hrest hle1
          cases star with
          | false =>
            have HF := Lib.hid (show res = false by rw [← HRES.out]; exact HP.out.fail hn0 hno)
            clear hn0 hrr hwl r1 hc hno hc42
            generalize valR (runeT n) = v at *
            generalize runeW n = k at *
            go_wp2_with (fail)
            refine (HPR.out _).mono ?_
            rintro e w1 ⟨rfl, hw1⟩
            have hB1 := HB.out.trans (hw1.mono HB.out.size)
            clear hw1
            go_wp2_with (fail)
            refine (HDEC.out _ hB1).mono ?_
            rintro e w2 ⟨rfl, hw2⟩
            have hB2 := hB1.trans (hw2.mono hB1.size)
            clear hw2 hB1
            go_wp2_with (fail)
            refine (HONE.out _ hB2).mono ?_
            rintro e w3 ⟨rfl, hw3⟩
            have hB3 := hB2.trans (hw3.mono hB2.size)
            clear hw3 hB2
            go_wp2_with (fail)
            go_ret
            exact ⟨by rw [HF.out]; rfl, hB3⟩
          | true =>
            obtain ⟨f1, f2, hS2⟩ := HP.out.back hn0 (hno)
            have HS2 := Lib.hid hS2
            have hfd := fun W (hb : Below w.heap.size w W) => dec_any_valid fr f1 HP.out.vf W (HT.out W hb)
            have HFD := Lib.hid hfd
            have hfl := runeW_le' f1
            have hz2 : (0 : Int) ≤ (runeW fr : Int) := by omega
            clear hS2 hfd f1 hn0 hrr hwl r1 hc hno hc42
            generalize valR (runeT n) = v at *
            generalize runeW n = k at *
            generalize valR (runeT fr) = v2 at *
            generalize hk2 : runeW fr = k2 at *
            generalize hff : fr.drop k2 = fr2 at *
            have HFF := Lib.hid hff
            have hfr2 : fr2.length < fr.length := by rw [← hff]; simp; omega
            have htk2 : fr2.take (fr.length - k2) = fr2 := List.take_of_length_le (by rw [← hff]; simp)
            go_wp2_with (fail)
            refine (HPR.out _).mono ?_
            rintro e w1 ⟨rfl, hw1⟩
            have hB1 := HB.out.trans (hw1.mono HB.out.size)
            clear hw1
            go_wp2_with (fail)
            refine (HDEC.out _ hB1).mono ?_
            rintro e w2 ⟨rfl, hw2⟩
            have hB2 := hB1.trans (hw2.mono hB1.size)
            clear hw2 hB1
            go_wp2_with (fail)
            refine (HONE.out _ hB2).mono ?_
            rintro e w2b ⟨rfl, hw2b⟩
            have hB2b := hB2.trans (hw2b.mono hB2.size)
            clear hw2b hB2
            go_wp2_with (fail)
            refine (HFD.out _ hB2b).mono ?_
            rintro e w3 ⟨rfl, hw3⟩
            have HB3 := Lib.hid (hB2b.trans (hw3.mono hB2b.size))
            clear hw3 hB2b
            go_wp2_with (fail)
            go_roundw
            case rel => exact ⟨again, fr2, again, fr2, true, rfl, rfl, rfl, rfl, rfl, HS2, Lib.hid (fun _ => Nat.le_refl _), HB3⟩
            case measure =>
              have := meas_back (P := p0.length) (N := n0.length) (ta := again.length) (tn := n.length) (star := true) hfr2 (show fr2.length ≤ n0.length by have := HLF.out; omega)
              simpa [strLenG, starOf, ByteArray.size] using this
end Go.Proofs.YtjhjepkmcbjgoaaDoor
end

/- A map that the call has made, as a function from keys to elements. -/
section
namespace Go.Proofs.YtjhjepkmcbjgoaaDoor
open Go.RowKit Go.Maps Go.ChangeMaps

/-- Block b is a map of at most n entries that holds f. -/
def MapIs (P : Program) (k : TypeId) (w : World) (b n : Nat) (f : Value → Option Value) : Prop :=
  ∃ es clock, w.heap[b]? = some (.map es clock) ∧ (∀ e ∈ es.toList, ∃ l, keyOf P k e.key = some l) ∧ es.size ≤ n ∧
    (∀ (i j : Nat) (e e' : MapEntry), es.toList[i]? = some e → es.toList[j]? = some e' → e.key = e'.key → i = j) ∧ ∀ x v, f x = some v ↔ ∃ e ∈ es.toList, e.key = x ∧ e.val = v

section
variable {P : Program} {k e t : TypeId} {w w' : World} {b n : Nat} {f : Value → Option Value}
theorem MapIs.made (w : World) (P : Program) (k : TypeId) : MapIs P k (w.alloc (.map #[] 0)) w.heap.size 0 (fun _ => none) :=
  ⟨#[], 0, heap_alloc_new w _, by simp, by simp, by simp, by simp⟩
theorem MapIs.lt (h : MapIs P k w b n f) : b < w.heap.size := by
  obtain ⟨es, c, hb, _⟩ := h
  exact (Array.getElem?_eq_some_iff.1 hb).1
theorem MapIs.same (h : MapIs P k w b n f) (hb : w'.heap[b]? = w.heap[b]?) : MapIs P k w' b n f := by
  obtain ⟨es, c, h1, h2⟩ := h
  exact ⟨es, c, hb.trans h1, h2⟩
theorem MapIs.below (h : MapIs P k w b n f) (hb : Below w.heap.size w w') : MapIs P k w' b n f := h.same (hb.block _ h.lt)
theorem MapIs.grown (h : MapIs P k w b n f) {r : Option Nat} (hg : w.grownBy w' r) (hne : some b ≠ r) : MapIs P k w' b n f := h.same (hg.block _ h.lt hne)
theorem MapIs.mono (h : MapIs P k w b n f) {n' : Nat} (hn : n ≤ n') : MapIs P k w b n' f := by
  obtain ⟨es, c, h1, h2, h3, h4⟩ := h
  exact ⟨es, c, h1, h2, by omega, h4⟩

/-- 'm[k]', 'v, ok := m[k]' -/
theorem MapIs.look (h : MapIs P k w b n f) (K : Keyed P k) (ht : P.underlying t = some (.map k e)) {z : Value} (hz : (zeroValue e).run P w = .ok z w) {x : Value} {lx : Lit} (hx : keyOf P k x = some lx) (ok : Bool) :
    (Instr.lookup t (.map (some b)) x ok).run P w = .ok (if ok then .tuple #[(f x).getD z, .bool (f x).isSome] else (f x).getD z) w := by
  obtain ⟨es, clock, hb, hk, hn, hd, hf⟩ := h
  have hu := run_underlying ht w
  have hc := K.check w es.isEmpty hx
  have hobj : (getObj b).run P w = .ok (.map es clock) w := by simp [getObj, Sem.run, hb]
  rcases K.find w hx es.toList hk with ⟨hfind, hno⟩ | ⟨j, e0, hfind, hj, hkey⟩
  · have hfx : f x = none := by
      cases hv : f x with
      | none => rfl
      | some v => obtain ⟨e0, he0, h1, _⟩ := (hf x v).1 hv; exact absurd h1 (hno e0 he0)
    rw [hfx]
    unfold Instr.lookup
    simp only [Sem.run_bind, hu, Result.andThen, hobj, hc, hfind, Sem.run_pure, hz]
    cases ok <;> rfl
  · have hfx : f x = some e0.val := (hf x e0.val).2 ⟨e0, List.mem_of_getElem? hj, hkey, rfl⟩
    rw [hfx]
    unfold Instr.lookup
    simp only [Sem.run_bind, hu, Result.andThen, hobj, hc, hfind, Sem.run_pure]
    cases ok <;> rfl

/-- 'm[k] = v' -/
theorem MapIs.store (h : MapIs P k w b n f) (K : Keyed P k) (ht : P.underlying t = some (.map k e)) {x v : Value} {lx : Lit} (hx : keyOf P k x = some lx) (g : Value → Option Value) (hg : ∀ y, y ≠ x → g y = f y) (hgx : g x = some v) :
    ∃ o, (∀ w1 : World, w1.heap = w.heap → (Instr.mapUpdate t (.map (some b)) x v).run P w1 = .ok () { w1 with heap := w.heap.setIfInBounds b o }) ∧ ∀ w2 : World, w2.heap[b]? = some o → MapIs P k w2 b (n + 1) g := by
  obtain ⟨es, clock, hb, hk, hn, hd, hf⟩ := h
  have hlt := (Array.getElem?_eq_some_iff.1 hb).1
  have hu := fun w1 : World => run_underlying ht w1
  have hc := fun w1 : World => K.check w1 false hx
  have hobj : ∀ w1 : World, w1.heap = w.heap → (getObj b).run P w1 = .ok (.map es clock) w1 := fun w1 e => by simp [getObj, Sem.run, e, hb]
  have hset : ∀ (w1 : World), w1.heap = w.heap → ∀ o, (setObj b o).run P w1 = .ok () { w1 with heap := w.heap.setIfInBounds b o } := fun w1 e o => by simp [setObj, Sem.run, e, hb]
  rcases K.find w hx es.toList hk with ⟨hfind, hno⟩ | ⟨j, e0, hfind, hj, hkey⟩
  · refine ⟨_, fun w1 e => ?_, fun w2 h2 => ⟨es.push { key := x, val := v, born := clock }, clock + 1, h2, ?_, ?_, ?_, ?_⟩⟩
    · have hfind1 : (Instr.findKey k x es.toList).run P w1 = .ok none w1 := by
        rcases K.find w1 hx es.toList hk with ⟨h1, _⟩ | ⟨j, e0, _, hj, hkey⟩
        · exact h1
        · exact absurd hkey (hno e0 (List.mem_of_getElem? hj))
      unfold Instr.mapUpdate
      simp only [Sem.run_bind, hu, Result.andThen, hobj w1 e, hc, hfind1, hset w1 e]
    · intro e1 he1
      rw [Array.toList_push, List.mem_append, List.mem_singleton] at he1
      rcases he1 with he1 | rfl
      · exact hk e1 he1
      · exact ⟨lx, hx⟩
    · simp; omega
    · intro i j e1 e2 h1 h2 he
      rw [Array.toList_push] at h1 h2
      rw [List.getElem?_append] at h1 h2
      split at h1 <;> split at h2
      · exact hd i j e1 e2 h1 h2 he
      · rename_i hi hj'
        have : e2 = { key := x, val := v, born := clock } := by
          rcases hq : j - es.toList.length with _ | q
          · rw [hq] at h2; simpa using h2.symm
          · rw [hq] at h2; simp at h2
        subst this
        exact absurd he (hno e1 (List.mem_of_getElem? h1))
      · rename_i hi hj'
        have : e1 = { key := x, val := v, born := clock } := by
          rcases hq : i - es.toList.length with _ | q
          · rw [hq] at h1; simpa using h1.symm
          · rw [hq] at h1; simp at h1
        subst this
        exact absurd he.symm (hno e2 (List.mem_of_getElem? h2))
      · rename_i hi hj'
        have a1 : i - es.toList.length = 0 := by
          rcases hq : i - es.toList.length with _ | q
          · rfl
          · rw [hq] at h1; simp at h1
        have a2 : j - es.toList.length = 0 := by
          rcases hq : j - es.toList.length with _ | q
          · rfl
          · rw [hq] at h2; simp at h2
        omega
    · intro y u
      rw [Array.toList_push]
      by_cases hy : y = x
      · subst hy
        rw [hgx]
        constructor
        · intro h; injection h with h; subst h; exact ⟨_, List.mem_append_right _ (List.mem_singleton.2 rfl), rfl, rfl⟩
        · rintro ⟨e1, he1, h1, h2⟩
          rw [List.mem_append, List.mem_singleton] at he1
          rcases he1 with he1 | rfl
          · exact absurd h1 (hno e1 he1)
          · rw [← h2]
      · rw [hg y hy, hf y u]
        constructor
        · rintro ⟨e1, he1, h1⟩; exact ⟨e1, List.mem_append_left _ he1, h1⟩
        · rintro ⟨e1, he1, h1, h2⟩
          rw [List.mem_append, List.mem_singleton] at he1
          rcases he1 with he1 | rfl
          · exact ⟨e1, he1, h1, h2⟩
          · exact absurd h1.symm hy
  · have hjs : j < es.toList.length := (List.getElem?_eq_some_iff.1 hj).1
    have hej : es[j]? = some e0 := by rw [← Array.getElem?_toList]; exact hj
    have hstay := fun w1 : World => K.stays w1 hx
    have hml : (es.modify j fun e => { e with key := x, val := v }).toList = es.toList.modify j (fun e => { e with key := x, val := v }) := by simp
    have hgm : ∀ i (e1 : MapEntry), (es.toList.modify j (fun e => { e with key := x, val := v }))[i]? = some e1 → ∃ e2, es.toList[i]? = some e2 ∧ e1.key = e2.key ∧ (if i = j then e1.val = v else e1 = e2) := by
      intro i e1 h1
      rw [List.getElem?_modify] at h1
      cases h2 : es.toList[i]? with
      | none => rw [h2] at h1; simp at h1
      | some e2 =>
        rw [h2] at h1
        replace h1 : (if j = i then fun e : MapEntry => { e with key := x, val := v } else id) e2 = e1 := by
          by_cases q : j = i
          · subst q; simpa using h1
          · rw [if_neg q]; simpa [q] using h1
        refine ⟨e2, rfl, ?_⟩
        by_cases hij : j = i
        · subst hij
          rw [hj] at h2
          injection h2 with h2
          subst h2
          rw [if_pos rfl] at h1
          subst h1
          simp [hkey]
        · rw [if_neg hij] at h1
          simp only [id_eq] at h1
          subst h1
          simp [Ne.symm hij]
    refine ⟨_, fun w1 e => ?_, fun w2 h2 => ⟨es.modify j fun e => { e with key := x, val := v }, clock, h2, ?_, ?_, ?_, ?_⟩⟩
    · have hfind1 : (Instr.findKey k x es.toList).run P w1 = .ok (some (j, e0.val)) w1 := by
        rcases K.find w1 hx es.toList hk with ⟨_, h1⟩ | ⟨j1, e1, h1, hj1, hkey1⟩
        · exact absurd hkey (h1 e0 (List.mem_of_getElem? hj))
        · obtain rfl := hd j1 j e1 e0 hj1 hj (hkey1.trans hkey.symm)
          rw [hj] at hj1
          injection hj1 with hj1
          subst hj1
          exact h1
      unfold Instr.mapUpdate
      simp only [Sem.run_bind, hu, Result.andThen, hobj w1 e, hc, hfind1]
      rw [hej]
      simp only [Option.map_some, Option.getD_some, hkey, hstay, hset w1 e]
    · intro e1 he1
      rw [hml] at he1
      obtain ⟨i, hi⟩ := List.mem_iff_getElem?.1 he1
      obtain ⟨e2, h2, h3, _⟩ := hgm i e1 hi
      rw [h3]; exact hk e2 (List.mem_of_getElem? h2)
    · simp; omega
    · intro i j' e1 e2 h1 h2 he
      rw [hml] at h1 h2
      obtain ⟨e1', q1, q2, _⟩ := hgm i e1 h1
      obtain ⟨e2', r1, r2, _⟩ := hgm j' e2 h2
      exact hd i j' e1' e2' q1 r1 (by rw [← q2, ← r2]; exact he)
    · intro y u
      rw [hml]
      by_cases hy : y = x
      · subst hy
        rw [hgx]
        constructor
        · intro h
          injection h with h
          subst h
          refine ⟨{ e0 with key := y, val := v }, List.mem_iff_getElem?.2 ⟨j, ?_⟩, rfl, rfl⟩
          rw [List.getElem?_modify, hj]; simp
        · rintro ⟨e1, he1, h1, h2⟩
          obtain ⟨i, hi⟩ := List.mem_iff_getElem?.1 he1
          obtain ⟨e2, q1, q2, q3⟩ := hgm i e1 hi
          have hij := hd i j e2 e0 q1 hj (by rw [← q2, h1, hkey])
          rw [if_pos hij] at q3
          rw [← h2, q3]
      · rw [hg y hy, hf y u]
        constructor
        · rintro ⟨e1, he1, h1, h2⟩
          obtain ⟨i, hi⟩ := List.mem_iff_getElem?.1 he1
          have hij : j ≠ i := fun e => by
            subst e
            rw [hj] at hi
            injection hi with hi
            subst hi
            exact hy (h1.symm.trans hkey)
          refine ⟨e1, List.mem_iff_getElem?.2 ⟨i, ?_⟩, h1, h2⟩
          rw [List.getElem?_modify, hi]; simp [hij]
        · rintro ⟨e1, he1, h1, h2⟩
          obtain ⟨i, hi⟩ := List.mem_iff_getElem?.1 he1
          obtain ⟨e2, q1, q2, q3⟩ := hgm i e1 hi
          have hij : i ≠ j := fun e => by
            subst e
            rw [hj] at q1
            injection q1 with q1
            subst q1
            exact hy (by rw [← h1, q2, hkey])
          rw [if_neg hij] at q3
          subst q3
          exact ⟨e1, List.mem_of_getElem? q1, h1, h2⟩
end
end Go.Proofs.YtjhjepkmcbjgoaaDoor
end

/- glob.parts: the closure that remembers which pairs do not match. -/
section
namespace Go.Proofs.YtjhjepkmcbjgoaaDoor
open Go.RowKit Go.Maps Plain

theorem laidOut5 : laidOutB Tryd.prog = true := by kernel_rfl
theorem row2 : 77 < Tryd.prog.types.size := by decide +kernel
theorem keyed2 : Keyed Tryd.prog 77 := Keyed.of_law (deep_law_laid laidOut5 (m := 2) (by omega) row2 (by kernel_rfl) (by kernel_rfl))
def pairV (i j : Nat) : Value := .agg #[.int .i64 i, .int .i64 j]
theorem pairV_inj {i j i' j' : Nat} (h : pairV i j = pairV i' j') : i = i' ∧ j = j' := by
  unfold pairV at h
  simp at h
  omega
theorem pair_formed (i j : Nat) : (pairV i j).formed Tryd.prog 77 = true := by
  unfold pairV Value.formed
  simp only [Tryd.underlying77]
  kernel_rfl
theorem pair_type : Tryd.prog.keyType 77 = true := by kernel_rfl
theorem pair_key (i j : Nat) (hi : i ≤ 4294967296) (hj : j ≤ 4294967296) : ∃ l, keyOf Tryd.prog 77 (pairV i j) = some l := by
  unfold keyOf
  simp only [Tryd.underlying77]
  rw [if_pos (by rw [pair_type, pair_formed]; rfl)]
  have : (Tryd.prog.keyLits (Tryd.prog.types.size + 1) 77 (pairV i j).cells.toList).isSome = true := by
    obtain ⟨d, hd⟩ : ∃ d, Tryd.prog.types.size + 1 = d + 1 + 1 := ⟨Tryd.prog.types.size - 1, by have := row2; omega⟩
    rw [hd]
    have hc2 : Tryd.prog.cellsOf 77 = 2 := by kernel_rfl
    have hc1 : Tryd.prog.cellsOf 3 = 1 := by kernel_rfl
    have hw : ∀ n : Nat, n ≤ 4294967296 → (Lit.int .i64 (n : Int)).wf = true := fun n hn => by
      unfold Lit.wf
      rw [Bool.and_eq_true, decide_eq_true_eq, decide_eq_true_eq]
      exact ⟨by show (-9223372036854775808 : Int) ≤ n; omega, by show (n : Int) ≤ 9223372036854775807; omega⟩
    have h1 : ∀ n : Nat, n ≤ 4294967296 → Tryd.prog.keyLits (d + 1) 3 [.int .i64 (n : Int)] = some [.int .i64 (n : Int)] := fun n hn => by
      unfold Program.keyLits
      simp only [Tryd.underlying3]
      rw [if_pos ⟨trivial, hw n hn⟩]
    unfold Program.keyLits
    simp only [Tryd.underlying77, hc2, hc1]
    simp [pairV, Value.cells, List.range_succ, h1 i hi, h1 j hj]
  obtain ⟨l, hl⟩ := Option.isSome_iff_exists.1 this
  exact ⟨_, by rw [hl]; rfl⟩

/-- A load of a cell, in a region that draws its order, in whatever class. -/
theorem quiet_load_in {P : Program} {C : World → Prop} {o : Oper} {a : Act} {K : Act → Prop} (ty : TypeId) (x : Operand) (ho : o.op = .load ty x)
    (p : Addr) (hx : a.eval x = .pointer (some p)) (v : Value) (d : TypeDesc) (hc : ∀ w, C w → w.cell? p = some v)
    (hu : P.underlying ty = some d) (hd : (match d with | .struct _ | .array _ _ => true | _ => false) = false)
    (h : K (a.put o.dst v)) : o.quiet P a C K := by
  refine ⟨v, fun W hW => ?_, h⟩
  have hcW := hc W hW
  have hagg : (isAgg ty).run P W = .ok false W := by
    unfold isAgg
    rw [Sem.run_bind, run_underlying hu W]
    cases d <;> simp_all
  unfold Oper.quietAt execOp
  simp only [ho, hx, Instr.loadAt, Instr.sureAddr, Sem.run_bind, Sem.run_pure, Result.andThen_ok, loadVar, hagg]
  simp [go_sem, hcW, Oper.quietUpon]

/-- A region that draws its order, in whatever class. -/
theorem wp_region_in {P : Program} {C : World → Prop} {id : Nat} {Q : Exit → Act → World → Prop} {a : Act} {w : World} {l : List Oper} (hm : P.follows .mixedOrders = true) (hB : Region.lexB .any l.toArray = true) (hC : C w.drew)
    (h : wpQuiet P l.toArray C (fun a' => ∀ W, C W → Q .normal a' W) l a) : (Code.region id l.toArray true).wp P Q a w :=
  wp_region_quiet (C := C) hm hB hC (by simpa using h)

theorem cell_block {w w' : World} {p : Addr} (h : w'.heap[p.block]? = w.heap[p.block]?) : w'.cell? p = w.cell? p := by unfold World.cell?; rw [h]
theorem cell_not_map {w : World} {p : Addr} {v : Value} {es : Array MapEntry} {c : Nat} (h : w.cell? p = some v) (hm : w.heap[p.block]? = some (.map es c)) : False := by
  unfold World.cell? at h; rw [hm] at h; cases h
theorem maps_block {w : World} {P : Program} {k : TypeId} {b n : Nat} {f : Value → Option Value} (h : MapIs P k w b n f) : ∃ es c, w.heap[b]? = some (.map es c) := by
  obtain ⟨es, c, h, _⟩ := h; exact ⟨es, c, h⟩

/-- The state that the closure goes over. -/
structure DS (w0 : World) (p n : List (List UInt8)) (Ap An : Option Addr) (cp cn bp bn bs bd bm : Nat) (W : World) : Prop where
  below : Below w0.heap.size w0 W
  hp : W.cell? ⟨bp, 0, none⟩ = some (.slice Ap p.length cp)
  hn : W.cell? ⟨bn, 0, none⟩ = some (.slice An n.length cn)
  hs : W.cell? ⟨bs, 0, none⟩ = some (.map (some bm))
  hd : W.cell? ⟨bd, 0, none⟩ = some (.func (.func 42) #[] #[.pointer (some ⟨bp, 0, none⟩), .pointer (some ⟨bn, 0, none⟩), .pointer (some ⟨bs, 0, none⟩), .pointer (some ⟨bd, 0, none⟩)])
  map : ∃ k f, MapIs Tryd.prog 77 W bm k f ∧ (∀ i j, f (pairV i j) = some (.bool true) → partsP (p.drop i) (n.drop j) = false) ∧ ∀ x v, f x = some v → ∃ b, v = .bool b
section
variable {w0 W W' : World} {p n : List (List UInt8)} {Ap An : Option Addr} {cp cn bp bn bs bd bm : Nat}
theorem DS.below' (h : DS w0 p n Ap An cp cn bp bn bs bd bm W) (hb : Below W.heap.size W W') : DS w0 p n Ap An cp cn bp bn bs bd bm W' := by
  have c := fun {q : Addr} {v : Value} (h : W.cell? q = some v) => (hb.cell (World.block_lt_of_cell? _ _ h)).trans h
  obtain ⟨k, f, h1, h2⟩ := h.map
  exact ⟨h.below.trans (hb.mono h.below.size), c h.hp, c h.hn, c h.hs, c h.hd, k, f, h1.below hb, h2⟩
theorem DS.drew (h : DS w0 p n Ap An cp cn bp bn bs bd bm W) : DS w0 p n Ap An cp cn bp bn bs bd bm W.drew := h.below' (Below.refl _ _).drew
set_option maxRecDepth 100000 in
open Classical in
/-- what has been found is kept -/
theorem DS.put (h : DS w0 p n Ap An cp cn bp bn bs bd bm W) (hbm : w0.heap.size ≤ bm) {i j : Nat} (hi : i ≤ 4294967296) (hj : j ≤ 4294967296) {ok : Bool} (hok : partsP (p.drop i) (n.drop j) = ok) :
    ∃ W', (Instr.mapUpdate 75 (.map (some bm)) (.agg #[.int .i64 i, .int .i64 j]) (.bool (!ok))).run Tryd.prog W = .ok () W' ∧ DS w0 p n Ap An cp cn bp bn bs bd bm W' := by
  obtain ⟨k, f, h1, h2, h3⟩ := h.map
  obtain ⟨es, cl, hmb⟩ := maps_block h1
  obtain ⟨l, hl⟩ := pair_key i j hi hj
  obtain ⟨o, ho, hm⟩ := h1.store keyed2 Tryd.underlying75 hl (fun x => if x = pairV i j then some (.bool (!ok)) else f x) (fun y hy => if_neg hy) (if_pos rfl)
  refine ⟨{ W with heap := W.heap.setIfInBounds bm o }, ho W rfl, ?_⟩
  have hlt := h1.lt
  have hoth : ∀ b, b ≠ bm → ({ W with heap := W.heap.setIfInBounds bm o } : World).heap[b]? = W.heap[b]? := fun b hb => by simp [Ne.symm hb]
  have c := fun {q : Addr} {v : Value} (hq : W.cell? q = some v) => (cell_block (w := W) (w' := { W with heap := W.heap.setIfInBounds bm o }) (p := q) (hoth _ (fun e => cell_not_map hq (by rw [e]; exact hmb)))).trans hq
  refine ⟨⟨h.below.os, h.below.tape, h.below.output, by simpa using h.below.size, fun b hb => (hoth b (by omega)).trans (h.below.block b hb)⟩, c h.hp, c h.hn, c h.hs, c h.hd, k + 1, _, hm _ (by simp [hlt]), fun i' j' hf => ?_, fun x v hx => ?_⟩
  · by_cases e : pairV i' j' = pairV i j
    · obtain ⟨rfl, rfl⟩ := pairV_inj e
      rw [if_pos rfl] at hf
      injection hf with hf
      injection hf with hf
      cases ok
      · exact hok
      · cases hf
    · rw [if_neg e] at hf
      exact h2 i' j' hf
  · by_cases e : x = pairV i j
    · rw [if_pos e] at hx
      injection hx with hx
      exact ⟨_, hx.symm⟩
    · rw [if_neg e] at hx
      exact h3 x v hx
theorem DS.get (h : DS w0 p n Ap An cp cn bp bn bs bd bm W) {i j : Nat} (hi : i ≤ 4294967296) (hj : j ≤ 4294967296) :
    ∃ b, (Instr.lookup 75 (.map (some bm)) (.agg #[.int .i64 i, .int .i64 j]) false).run Tryd.prog W = .ok (.bool b) W ∧ (b = true → partsP (p.drop i) (n.drop j) = false) := by
  obtain ⟨k, f, h1, h2, h3⟩ := h.map
  obtain ⟨l, hl⟩ := pair_key i j hi hj
  have hz : (zeroValue 4).run Tryd.prog W = .ok (.bool false) W := Tryd.zeroValue4 W
  have hlk := h1.look keyed2 Tryd.underlying75 hz hl false
  rw [if_neg (by decide)] at hlk
  cases hf : f (pairV i j) with
  | none =>
    rw [hf] at hlk
    exact ⟨false, hlk, fun e => by cases e⟩
  | some v =>
    obtain ⟨b, rfl⟩ := h3 _ _ hf
    rw [hf] at hlk
    refine ⟨b, hlk, fun e => h2 i j (by rw [hf, e])⟩
end
theorem partsP_nil (l : List (List UInt8)) : partsP [] l = l.isEmpty := by unfold partsP; simp [matchT]
theorem partsP_star {p n : List (List UInt8)} : partsP ([42, 42] :: p) n = (partsP p n || (match n with | [] => false | _ :: m => partsP ([42, 42] :: p) m)) := by
  unfold partsP
  rw [List.map_cons, partsTok_stars, matchT_none]
  cases n with
  | nil => rw [matchS_nil, Bool.or_false]
  | cons x m =>
    rw [matchS_cons]
    show _ = (_ || matchT (none :: p.map partsTok) m)
    rw [matchT_none]
theorem partsP_star_at {p n : List (List UInt8)} {i j : Nat} (hi : i < p.length) (h : p[i] = [42, 42]) : partsP (p.drop i) (n.drop j) = (partsP (p.drop (i + 1)) (n.drop j) || (decide (j < n.length) && partsP (p.drop i) (n.drop (j + 1)))) := by
  rw [List.drop_eq_getElem_cons hi, h]
  by_cases hj : j < n.length
  · rw [List.drop_eq_getElem_cons hj, partsP_star, decide_eq_true hj, Bool.true_and]
  · rw [List.drop_eq_nil_of_le (show n.length ≤ j by omega), partsP_star, decide_eq_false hj, Bool.false_and]
theorem partsP_one_at {p n : List (List UInt8)} {i j : Nat} (hi : i < p.length) (h : p[i] ≠ [42, 42]) : partsP (p.drop i) (n.drop j) = if hj : j < n.length then (partP p[i] n[j] && partsP (p.drop (i + 1)) (n.drop (j + 1))) else false := by
  rw [List.drop_eq_getElem_cons hi]
  unfold partsP
  rw [List.map_cons, partsTok_no h]
  by_cases hj : j < n.length
  · rw [List.drop_eq_getElem_cons hj, dif_pos hj]
    simp only [matchT]
  · rw [List.drop_eq_nil_of_le (show n.length ≤ j by omega), dif_neg hj]
    simp only [matchT]
end Go.Proofs.YtjhjepkmcbjgoaaDoor
end

/- glob.parts: the closure, by its pairs. -/
section
namespace Go.Proofs.YtjhjepkmcbjgoaaDoor
open Go.RowKit Go.Maps Plain

set_option maxHeartbeats 4000000 in
set_option maxRecDepth 100000 in
theorem down_any (w0 : World) (p n : List (List UInt8)) (Ap An : Option Addr) (cp cn bp bn bs bd bm : Nat) (hT : Tabs w0) (hbm : w0.heap.size ≤ bm)
    (hp : Reads w0 1 Ap p.length (strs p)) (hn : Reads w0 1 An n.length (strs n)) (hpl : p.length ≤ 65536) (hnl : n.length ≤ 65536)
    (hpo : ∀ x ∈ p, Lib.validD x = true ∧ wfP x = true ∧ x.length ≤ 65536) (hno : ∀ x ∈ n, Lib.validD x = true ∧ x.length ≤ 65536) :
    ∀ (N i j : Nat) (W : World), (p.length - i) + (n.length - j) ≤ N → i ≤ p.length → j ≤ n.length → DS w0 p n Ap An cp cn bp bn bs bd bm W →
      Calls Tryd.prog 42 #[.int .i64 i, .int .i64 j, .pointer (some ⟨bp, 0, none⟩), .pointer (some ⟨bn, 0, none⟩), .pointer (some ⟨bs, 0, none⟩), .pointer (some ⟨bd, 0, none⟩)] W
        fun e W' => e = .returned (.bool (partsP (p.drop i) (n.drop j))) ∧ DS w0 p n Ap An cp cn bp bn bs bd bm W' := by
  intro N
  induction N with
  | zero =>
    intro i j W hN hi hj hS
    obtain rfl : i = p.length := by omega
    obtain rfl : j = n.length := by omega
    have h1 := hS.hp
    have h2 := hS.hn
    have HS := Lib.hid hS
    clear hS hp hn hT hpo hno
    rw [List.drop_length, List.drop_length]
    go_enter Tryd.func42, Tryd.ntmps42
    go_wp2_with (fail)
    go_ret
    exact ⟨by rw [partsP_nil]; rfl, HS.out⟩
  | succ N ih =>
    intro i j W hN hi hj hS
    have h1 := hS.hp
    have h2 := hS.hn
    have h3 := hS.hs
    have h4 := hS.hd
    have HS := Lib.hid hS
    have i0 : (0 : Int) ≤ i := by omega
    have j0 : (0 : Int) ≤ j := by omega
    by_cases hip : i = p.length
    · subst hip
      have hje : ((j : Int) == (n.length : Int)) = (n.drop j).isEmpty := by
        rw [Bool.eq_iff_iff, beq_iff_eq, List.isEmpty_iff, List.drop_eq_nil_iff]; omega
      have HR := Lib.hid (show partsP (p.drop p.length) (n.drop j) = (n.drop j).isEmpty by rw [List.drop_length, partsP_nil])
      generalize (n.drop j).isEmpty = b at *
      have hii : ((p.length : Int) == (p.length : Int)) = true := by simp
      clear hS hp hn hT hpo hno
      go_enter Tryd.func42, Tryd.ntmps42
      go_wp2_with (fail)
      go_ret
      exact ⟨by rw [HR.out]; rfl, HS.out⟩
    have hil : i < p.length := by omega
    have hii : ((i : Int) == (p.length : Int)) = false := by rw [beq_eq_false_iff_ne]; omega
    obtain ⟨b, hlk, hbf⟩ := hS.get (i := i) (j := j) (by omega) (by omega)
    cases b with
    | true =>
      have HR := Lib.hid (hbf rfl)
      clear hS hp hn hT hpo hno ih hbf
      go_enter Tryd.func42, Tryd.ntmps42
      go_wp2_with (fail)
      go_ret
      exact ⟨by rw [HR.out]; rfl, HS.out⟩
    | false =>
      have HPUT := Lib.hid (fun (X : World) (ok : Bool) (hX : DS w0 p n Ap An cp cn bp bn bs bd bm X) (hok : partsP (p.drop i) (n.drop j) = ok) => hX.put hbm (i := i) (j := j) (by omega) (by omega) hok)
      have HCELL := Lib.hid (fun (X : World) (hX : DS w0 p n Ap An cp cn bp bn bs bd bm X) => (And.intro hX.hp (And.intro hX.hn (And.intro hX.hs hX.hd))))
      obtain ⟨ad, rfl, cS⟩ := hp.str_at hil
      have HPC := Lib.hid (fun (X : World) (hX : DS w0 p n (some ad) An cp cn bp bn bs bd bm X) => (hX.below.cell (World.block_lt_of_cell? _ _ cS)).trans cS)
      have cW := HPC.out W hS
      have e1 : IntKind.i64.wrap ((i : Int) + 1) = (i : Int) + 1 := IntWalk.i64_in _ (by omega)
      have e2 : IntKind.i64.wrap ((j : Int) + 1) = (j : Int) + 1 := IntWalk.i64_in _ (by omega)
      have i1 : (i : Int) < (p.length : Int) := by omega
      have IH := Lib.hid ih
      by_cases hst : p[i] = [42, 42]
      · have hps := partsP_star_at (n := n) (j := j) hil hst
        rw [hst] at cW
        have hq : (([42, 42] : List UInt8) == [42, 42]) = true := rfl
        have HQ1 := Lib.hid (fun (X : World) (hX : DS w0 p n (some ad) An cp cn bp bn bs bd bm X) => ih (i + 1) j X (by omega) (by omega) hj hX)
        have HQ2 := Lib.hid (fun (hjn : j < n.length) (X : World) (hX : DS w0 p n (some ad) An cp cn bp bn bs bd bm X) => ih i (j + 1) X (by omega) hi (by omega) hX)
        clear hS hp hn hT hpo hno ih hbf cS
        generalize hr1 : partsP (p.drop (i + 1)) (n.drop j) = r1 at *
        generalize hr2 : partsP (p.drop i) (n.drop (j + 1)) = r2 at *
        have HPS := Lib.hid hps
        clear hps hr1 hr2 hst
        have hjd : decide ((j : Int) < (n.length : Int)) = decide (j < n.length) := by rw [decide_eq_decide]; omega
        go_enter Tryd.func42, Tryd.ntmps42
        go_wp2_with (fail)
        refine (HQ1.out _ HS.out).mono ?_
        rintro e w1 ⟨rfl, hS1⟩
        have HS1 := Lib.hid hS1
        obtain ⟨k1, k2, k3, k4⟩ := HCELL.out w1 hS1
        clear hS1 h1 h2 h3 h4 hlk cW
        cases r1 with
        | true =>
          have hr := HPS.out
          rw [Bool.true_or] at hr
          obtain ⟨w2, hup, hS2⟩ := HPUT.out w1 true HS1.out hr
          rw [Bool.not_true] at hup
          have HR := Lib.hid hr
          have HS2 := Lib.hid hS2
          clear hS2 hr
          go_wp2_with (fail)
          go_ret
          exact ⟨by rw [HR.out]; rfl, HS2.out⟩
        | false =>
          by_cases hjn : j < n.length
          · rw [decide_eq_true hjn] at hjd
            have hr := HPS.out
            rw [Bool.false_or, decide_eq_true hjn, Bool.true_and] at hr
            have HR := Lib.hid hr
            clear hr
            go_wp2_with (fail)
            refine (HQ2.out hjn _ HS1.out).mono ?_
            rintro e w2 ⟨rfl, hS2⟩
            have HS2 := Lib.hid hS2
            obtain ⟨m1, m2, m3, m4⟩ := HCELL.out w2 hS2
            obtain ⟨w3, hup, hS3⟩ := HPUT.out w2 r2 hS2 HR.out
            have HS3 := Lib.hid hS3
            clear hS2 hS3 k1 k2 k3 k4
            go_wp2_with (fail)
            go_ret
            exact ⟨by rw [HR.out]; rfl, HS3.out⟩
          · rw [decide_eq_false hjn] at hjd
            have hr := HPS.out
            rw [Bool.false_or, decide_eq_false hjn, Bool.false_and] at hr
            obtain ⟨w2, hup, hS2⟩ := HPUT.out w1 false HS1.out hr
            rw [Bool.not_false] at hup
            have HR := Lib.hid hr
            have HS2 := Lib.hid hS2
            clear hS2 hr
            go_wp2_with (fail)
            go_ret
            exact ⟨by rw [HR.out]; rfl, HS2.out⟩
      · have hps := partsP_one_at (n := n) (j := j) hil hst
        have hq : (p[i] == [42, 42]) = false := by rw [beq_eq_false_iff_ne]; exact hst
        obtain ⟨v1, v2, v3⟩ := hpo p[i] (List.getElem_mem hil)
        by_cases hjn : j < n.length
        · have hjd : decide ((j : Int) < (n.length : Int)) = true := by rw [decide_eq_true_eq]; omega
          rw [dif_pos hjn] at hps
          obtain ⟨ad2, rfl, cS2⟩ := hn.str_at hjn
          have HNC := Lib.hid (fun (X : World) (hX : DS w0 p n (some ad) (some ad2) cp cn bp bn bs bd bm X) => (hX.below.cell (World.block_lt_of_cell? _ _ cS2)).trans cS2)
          obtain ⟨u1, u2⟩ := hno n[j] (List.getElem_mem hjn)
          have j1 : (j : Int) < (n.length : Int) := by omega
          have HPT := Lib.hid (fun (X : World) (hX : DS w0 p n (some ad) (some ad2) cp cn bp bn bs bd bm X) => part_any p[i] n[j] X (Utf8Tabs_below hT hX.below) v1 v2 u1 v3 u2)
          have HQ2 := Lib.hid (fun (X : World) (hX : DS w0 p n (some ad) (some ad2) cp cn bp bn bs bd bm X) => ih (i + 1) (j + 1) X (by omega) (by omega) (by omega) hX)
          clear hS hp hn hT hpo hno ih hbf cS cS2 v1 v2 v3 u1 u2
          generalize hx : p[i] = x at *
          generalize hy : n[j] = y at *
          generalize partP x y = r1 at *
          generalize partsP (p.drop (i + 1)) (n.drop (j + 1)) = r2 at *
          have HPS := Lib.hid hps
          clear hps hst hx hy
          go_enter Tryd.func42, Tryd.ntmps42
          go_wp2_with (fail)
          cases r1 with
          | false =>
            have HFA : ∀ q : Prop, (∀ X, DS w0 p n (some ad) (some ad2) cp cn bp bn bs bd bm X → q) ↔ q := fun q => ⟨fun h => h _ HS.out, fun h _ _ => h⟩
            refine wp_region_in (C := DS w0 p n (some ad) (some ad2) cp cn bp bn bs bd bm) (by kernel_rfl) (by kernel_rfl) HS.out.drew ?_
            repeat (first | go_big_quiet_step ((intro hW; go_at_call 28; exact (HPT.out _ hW).mono fun _ _ ⟨he, hb⟩ => ⟨he, hW.below' hb⟩)) | (go_big_quiet_want; (first | (refine quiet_load_in _ _ rfl ⟨bn, 0, none⟩ rfl _ _ (fun X hX => hX.hn) Tryd.underlying60 rfl ?_) | (refine quiet_load_in _ _ rfl ⟨bp, 0, none⟩ rfl _ _ (fun X hX => hX.hp) Tryd.underlying60 rfl ?_) | (refine quiet_load_in _ _ rfl (ad.add i) rfl _ _ HPC.out Tryd.underlying9 rfl ?_) | (refine quiet_load_in _ _ rfl (ad2.add j) rfl _ _ HNC.out Tryd.underlying9 rfl ?_)); simp only [Act.put, List.setIfInBounds_toArray, List.set_cons_succ, List.set_cons_zero]; go_big_quiet_on))
            refine wpQuiet_nil ?_
            intro X hX
            clear HFA
            obtain ⟨m1, m2, m3, m4⟩ := HCELL.out X hX
            have hr := HPS.out
            rw [Bool.false_and] at hr
            obtain ⟨w2, hup, hS2⟩ := HPUT.out X false hX hr
            rw [Bool.not_false] at hup
            have HR := Lib.hid hr
            have HS2 := Lib.hid hS2
            clear hS2 hr hX h1 h2 h3 h4 hlk
            go_wp2_with (fail)
            go_ret
            exact ⟨by rw [HR.out]; rfl, HS2.out⟩
          | true =>
            have HFA : ∀ q : Prop, (∀ X, DS w0 p n (some ad) (some ad2) cp cn bp bn bs bd bm X → q) ↔ q := fun q => ⟨fun h => h _ HS.out, fun h _ _ => h⟩
            refine wp_region_in (C := DS w0 p n (some ad) (some ad2) cp cn bp bn bs bd bm) (by kernel_rfl) (by kernel_rfl) HS.out.drew ?_
            repeat (first | go_big_quiet_step ((first | (intro hW; go_at_call 28; exact (HPT.out _ hW).mono fun _ _ ⟨he, hb⟩ => ⟨he, hW.below' hb⟩) | (intro hW; go_at_call 42; exact HQ2.out _ hW))) | (go_big_quiet_want; (first | (refine quiet_load_in _ _ rfl ⟨bn, 0, none⟩ rfl _ _ (fun X hX => hX.hn) Tryd.underlying60 rfl ?_) | (refine quiet_load_in _ _ rfl ⟨bp, 0, none⟩ rfl _ _ (fun X hX => hX.hp) Tryd.underlying60 rfl ?_) | (refine quiet_load_in _ _ rfl (ad.add i) rfl _ _ HPC.out Tryd.underlying9 rfl ?_) | (refine quiet_load_in _ _ rfl (ad2.add j) rfl _ _ HNC.out Tryd.underlying9 rfl ?_) | (refine quiet_load_in _ _ rfl ⟨bd, 0, none⟩ rfl _ _ (fun X hX => hX.hd) Tryd.underlying76 rfl ?_)); simp only [Act.put, List.setIfInBounds_toArray, List.set_cons_succ, List.set_cons_zero]; go_big_quiet_on))
            refine wpQuiet_nil ?_
            intro X hX
            clear HFA
            obtain ⟨m1, m2, m3, m4⟩ := HCELL.out X hX
            have hr := HPS.out
            rw [Bool.true_and] at hr
            obtain ⟨w2, hup, hS2⟩ := HPUT.out X r2 hX hr
            have HR := Lib.hid hr
            have HS2 := Lib.hid hS2
            clear hS2 hr hX h1 h2 h3 h4 hlk
            go_wp2_with (fail)
            go_ret
            exact ⟨by rw [HR.out]; rfl, HS2.out⟩
        · have hjd : decide ((j : Int) < (n.length : Int)) = false := by rw [decide_eq_false_iff_not]; omega
          rw [dif_neg hjn] at hps
          clear hp hn hT hpo hno ih hbf cS v1 v2 v3
          generalize hx : p[i] = x at *
          have HPS := Lib.hid hps
          clear hps hst hx
          go_enter Tryd.func42, Tryd.ntmps42
          go_wp2_with (fail)
          have HFA : ∀ q : Prop, (∀ X, DS w0 p n (some ad) An cp cn bp bn bs bd bm X → q) ↔ q := fun q => ⟨fun h => h _ HS.out, fun h _ _ => h⟩
          refine wp_region_in (C := DS w0 p n (some ad) An cp cn bp bn bs bd bm) (by kernel_rfl) (by kernel_rfl) HS.out.drew ?_
          repeat (first | go_big_quiet_step ((fail)) | (go_big_quiet_want; (first | (refine quiet_load_in _ _ rfl ⟨bn, 0, none⟩ rfl _ _ (fun X hX => hX.hn) Tryd.underlying60 rfl ?_)); simp only [Act.put, List.setIfInBounds_toArray, List.set_cons_succ, List.set_cons_zero]; go_big_quiet_on))
          refine wpQuiet_nil ?_
          intro X hX
          clear HFA
          obtain ⟨m1, m2, m3, m4⟩ := HCELL.out X hX
          have hr := HPS.out
          obtain ⟨w2, hup, hS2⟩ := HPUT.out X false hX hr
          rw [Bool.not_false] at hup
          have HR := Lib.hid hr
          have HS2 := Lib.hid hS2
          clear hS2 hr hX h1 h2 h3 h4 hlk
          go_wp2_with (fail)
          go_ret
          exact ⟨by rw [HR.out]; rfl, HS2.out⟩
end Go.Proofs.YtjhjepkmcbjgoaaDoor
end
