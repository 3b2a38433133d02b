/- glob.one, glob.part. -/
import Derived.Test.YtgppfcaghjbjmaaDoorGlob3
set_option linter.unusedVariables false
namespace Go.Proofs.YtgppfcaghjbjmaaDoor
open Go.RowKit Plain

theorem dec_any_valid (l : List UInt8) (hne : l ≠ []) (hv : Lib.validD l = true) (w : World) (hT : Tabs w) :
    Calls Tryd.prog 44 #[.string ⟨l.toArray⟩] w (Ret w (.tuple #[.int .i32 (valR (runeT l) : Nat), .int .i64 (runeW l : Nat)])) := by
  have h := Decode_any l hne w hT
  rw [dec_valid hne hv] at h
  exact h
theorem one_q (q r : List UInt8) : oneP (63 :: q) r = (true, 1) := rfl
theorem one_back (q r : List UInt8) : oneP (92 :: q) r = (runeT q == r, 1 + runeW q) := rfl
theorem one_set {q : List UInt8} {e : Nat} (r : List UInt8) (h : closeP (91 :: q) = some e) : oneP (91 :: q) r = (holdsP (((91 :: q).take e).drop 1) r, e + 1) := by
  show (match closeP (91 :: q) with
      | some e => (holdsP (((91 :: q).take e).drop 1) r, e + 1)
      | none => (false, 1)) = _
  rw [h]
theorem one_plain {c : UInt8} {q : List UInt8} (r : List UInt8) (h1 : c ≠ 63) (h2 : c ≠ 92) (h3 : c ≠ 91) : oneP (c :: q) r = (runeT (c :: q) == r, runeW (c :: q)) := by
  unfold oneP
  simp only
  rw [if_neg h1, if_neg h2, if_neg h3]

def OneOut (p t : List UInt8) (w : World) (e : Ending) (w' : World) : Prop := Ret w (.tuple #[.bool (oneP p t).1, .string ⟨(p.drop (oneP p []).2).toArray⟩]) e w'

set_option maxHeartbeats 2000000 in
theorem one_any (c : UInt8) (q t : List UInt8) (w : World) (hT : Tabs w) (hv : Lib.validD (c :: q) = true) (hw : wfP (c :: q) = true) (ht : IsRune t) (hs : (c :: q).length ≤ 65536) :
    Calls Tryd.prog 45 #[.string ⟨(c :: q : List UInt8).toArray⟩, .int .i32 (valR t : Nat)] w (OneOut (c :: q) t w) := by
  unfold OneOut
  have hql : q.length ≤ 65536 := by simp at hs; omega
  by_cases h63 : c = 63
  · subst h63
    rw [one_q, one_q]
    generalize valR t = r at *
    clear hv hw hT ht
    go_enter Tryd.func45, Tryd.ntmps45
    go_wp2_with (fail)
    refine wp_region_below (by kernel_rfl) (by kernel_rfl) ?_
    repeat (go_big_quiet_step (fail))
    refine wpQuiet_nil ?_
    intro W2 hW2
    go_wp2_with (fail)
    go_ret2
    exact ⟨rfl, hW2⟩
  by_cases h91 : c = 91
  · subst h91
    obtain ⟨e, he, hw2⟩ := wfP_set hw
    obtain ⟨a1, a2, a3, a4⟩ := inner_valid hv he
    rw [one_set t he, one_set [] he]
    have hset := set_any q w (by simp; omega)
    have hhold := fun W => holds_any (((91 :: q).take e).drop 1) t W a3 ht (by simp; omega)
    have HS := Lib.hid hset
    have HH := Lib.hid hhold
    have HE := Lib.hid he
    clear hset hhold he hw2 a1 a2 a3 a4 hv hw hT ht h63
    generalize valR t = r at *
    generalize hin : ((91 :: q : List UInt8).take e).drop 1 = ii at *
    generalize hrr : (91 :: q : List UInt8).drop (e + 1) = rr at *
    have HIN := Lib.hid hin
    have HRR := Lib.hid hrr
    clear hin hrr
    go_enter Tryd.func45, Tryd.ntmps45
    go_wp2_with (fail)
    refine HS.out.mono ?_
    rintro ee w1 ⟨h1, _, hw1⟩
    obtain rfl := h1 e HE.out
    rw [HIN.out, HRR.out]
    clear h1
    go_wp2_with (fail)
    refine (HH.out _).mono ?_
    rintro ee w2 ⟨rfl, hw2⟩
    go_wp2_with (fail)
    go_ret2
    exact ⟨rfl, hw1.trans (hw2.mono hw1.size)⟩
  by_cases h92 : c = 92
  · subst h92
    cases q with
    | nil => rw [wfP_back_nil] at hw; cases hw
    | cons d q =>
      rw [Lib.validD_cons _ _ (by decide)] at hv
      have hne : (d :: q) ≠ [] := by simp
      obtain ⟨hw1, _⟩ := valid_next hne hv
      have hr1 := (runeT_rune hne hw1).1
      have hD := fun W (hb : Below w.heap.size w W) => dec_any_valid (d :: q) hne hv W (Utf8Tabs_below hT hb)
      have hsame := rune_same hr1 ht
      have hlen := runeW_le' hne
      rw [one_back, one_back, Nat.add_comm 1, List.drop_succ_cons]
      simp only
      rw [hsame]
      have hqd : ((d :: q).drop (runeW (d :: q))).take (q.length + 1 - runeW (d :: q)) = (d :: q).drop (runeW (d :: q)) := List.take_of_length_le (by simp)
      have hz : (0 : Int) ≤ (runeW (d :: q) : Int) := by omega
      generalize valR (runeT (d :: q)) = v at *
      generalize runeW (d :: q) = k at *
      generalize valR t = r at *
      have heq : ((v : Int) == (r : Int)) = (v == r) := by rw [Bool.eq_iff_iff, beq_iff_eq, beq_iff_eq]; omega
      generalize (v == r) = b at *
      have HD := Lib.hid hD
      have hkl : (k : Int) ≤ (q.length : Int) + 1 := by simp at hlen; omega
      clear hD hT hv hw ht hr1 hsame hw1 hne h63 h91
      generalize hdd : (d :: q).drop k = dd at *
      have HDD := Lib.hid hdd
      go_enter Tryd.func45, Tryd.ntmps45
      go_wp2_with (fail)
      refine (HD.out _ (Below.refl _ _)).mono ?_
      rintro ee w1 ⟨rfl, hw1⟩
      go_wp2_with (fail)
      refine wp_region_below (by kernel_rfl) (by kernel_rfl) ?_
      repeat (go_big_quiet_step (fail))
      refine wpQuiet_nil ?_
      intro W2 hW2
      go_wp2_with (fail)
      go_ret2
      exact ⟨rfl, hw1.trans (hW2.mono hw1.size)⟩
  · rw [one_plain t h63 h92 h91, one_plain [] h63 h92 h91]
    have hne : (c :: q) ≠ [] := by simp
    obtain ⟨hw1, _⟩ := valid_next hne hv
    have hr1 := (runeT_rune hne hw1).1
    have hD := fun W (hb : Below w.heap.size w W) => dec_any_valid (c :: q) hne hv W (Utf8Tabs_below hT hb)
    have hsame := rune_same hr1 ht
    have hlen := runeW_le' hne
    simp only
    rw [hsame]
    have h63' := u8_ne (n := 63) (by omega) h63
    have h92' := u8_ne (n := 92) (by omega) h92
    have h91' := u8_ne (n := 91) (by omega) h91
    have hqd : ((c :: q).drop (runeW (c :: q))).take (q.length + 1 - runeW (c :: q)) = (c :: q).drop (runeW (c :: q)) := List.take_of_length_le (by simp)
    have hz : (0 : Int) ≤ (runeW (c :: q) : Int) := by omega
    generalize valR (runeT (c :: q)) = v at *
    generalize runeW (c :: q) = k at *
    generalize valR t = r at *
    have heq : ((v : Int) == (r : Int)) = (v == r) := by rw [Bool.eq_iff_iff, beq_iff_eq, beq_iff_eq]; omega
    generalize (v == r) = b at *
    have HD := Lib.hid hD
    have hkl : (k : Int) ≤ (q.length : Int) + 1 := by simp at hlen; omega
    clear hD hT hv hw ht hr1 hsame hw1 hne h63 h91 h92
    generalize hdd : (c :: q).drop k = dd at *
    have HDD := Lib.hid hdd
    go_enter Tryd.func45, Tryd.ntmps45
    go_wp2_with (fail)
    refine (HD.out _ (Below.refl _ _)).mono ?_
    rintro ee w1 ⟨rfl, hw1⟩
    go_wp2_with (fail)
    refine wp_region_below (by kernel_rfl) (by kernel_rfl) ?_
    repeat (go_big_quiet_step (fail))
    refine wpQuiet_nil ?_
    intro W2 hW2
    go_wp2_with (fail)
    go_ret2
    exact ⟨rfl, hw1.trans (hW2.mono hw1.size)⟩

theorem dropWhile_all (c : UInt8) : ∀ (l : List UInt8), (l.dropWhile (· == c)).isEmpty = l.all (· == c)
  | [] => rfl
  | x :: l => by
    rw [List.dropWhile_cons, List.all_cons]
    cases h : x == c with
    | true => rw [if_pos rfl, Bool.true_and]; exact dropWhile_all c l
    | false => rw [if_neg (by decide)]; rfl
theorem trimB_star (p : List UInt8) : (Lib.trimB p 42).isEmpty = p.all (· == 42) := by
  unfold Lib.trimB Lib.trimLeftB
  rw [dropWhile_all]
  unfold Lib.trimRightB
  rw [List.all_reverse]
  have h : ∀ l : List UInt8, (l.dropWhile (· == 42)).all (· == 42) = l.all (· == 42) := by
    intro l
    induction l with
    | nil => rfl
    | cons x l ih =>
      rw [List.dropWhile_cons, List.all_cons]
      cases h : x == 42 with
      | true => rw [if_pos rfl, Bool.true_and]; exact ih
      | false => rw [if_neg (by decide), List.all_cons, h]
  rw [h, List.all_reverse]
def starOf : Value → Bool
  | .bool b => b
  | _ => false
def partMeas (P N ta tf tn : Nat) (star : Bool) : Nat := (if star then ta else P + 1) * ((N + 1) * (N + 1)) + (tf * (N + 1) + tn)
theorem meas_star {P N ta tf tn tn' ta' tf' : Nat} {star : Bool} (h : ta' < (if star then ta else P + 1)) (hf : tf' ≤ N) (hn : tn' ≤ N) : partMeas P N ta' tf' tn' true < partMeas P N ta tf tn star := by
  unfold partMeas
  rw [if_pos rfl]
  generalize (if star then ta else P + 1) = a at *
  have h1 : (ta' + 1) * ((N + 1) * (N + 1)) ≤ a * ((N + 1) * (N + 1)) := Nat.mul_le_mul_right _ h
  rw [Nat.add_mul, Nat.one_mul] at h1
  have h2 : tf' * (N + 1) ≤ N * (N + 1) := Nat.mul_le_mul_right _ hf
  have h3 : (N + 1) * (N + 1) = N * (N + 1) + (N + 1) := by rw [Nat.add_mul, Nat.one_mul]
  generalize (N + 1) * (N + 1) = M at *
  omega
theorem meas_back {P N ta tf tn tn' tf' : Nat} {star : Bool} (hf : tf' < tf) (hn : tn' ≤ N) : partMeas P N ta tf' tn' star < partMeas P N ta tf tn star := by
  unfold partMeas
  have h1 : (tf' + 1) * (N + 1) ≤ tf * (N + 1) := Nat.mul_le_mul_right _ hf
  rw [Nat.add_mul, Nat.one_mul] at h1
  omega
theorem meas_one {P N ta tf tn tn' : Nat} {star : Bool} (hn : tn' < tn) : partMeas P N ta tf tn' star < partMeas P N ta tf tn star := by
  unfold partMeas
  omega

set_option maxHeartbeats 4000000 in
set_option maxRecDepth 100000 in
theorem part_any (p0 n0 : List UInt8) (w : World) (hT : Tabs w) (hv : Lib.validD p0 = true) (hw : wfP p0 = true) (hn : Lib.validD n0 = true) (hp : p0.length ≤ 65536) (hnl : n0.length ≤ 65536) :
    Calls Tryd.prog 23 #[.string ⟨p0.toArray⟩, .string ⟨n0.toArray⟩] w (Ret w (.bool (partP p0 n0))) := by
  have hS := PSt.start hv hw hn
  have HT := Lib.hid (fun W (hb : Below w.heap.size w W) => Utf8Tabs_below hT hb)
  generalize hres : partP p0 n0 = res
  have HRES := Lib.hid hres
  have HS := Lib.hid hS
  have HPRE := Lib.hid (fun (p : List UInt8) (W : World) => Tryd.strings_HasPrefix ⟨p.toArray⟩ ⟨[(42 : UInt8)].toArray⟩ W)
  clear hres hS hT hv hw hn
  go_enter Tryd.func23, Tryd.ntmps23
  go_wp2_with (fail)
  go_loopw [0, 1, 5, 6, 7] (fun t0 t1 t5 t6 t7 W => ∃ (p n again fr : List UInt8) (star : Bool), t0 = .string ⟨p.toArray⟩ ∧ t1 = .string ⟨n.toArray⟩ ∧ t5 = .string ⟨again.toArray⟩ ∧ t6 = .string ⟨fr.toArray⟩ ∧ t7 = .bool star ∧ Hid (PSt p0 n0 p n again fr star) ∧ Hid (star = true → p.length ≤ again.length) ∧ Hid (Below w.heap.size w W))
    (fun _ t1 t5 t6 t7 _ => partMeas p0.length n0.length (strLenG t5) (strLenG t6) (strLenG t1) (starOf t7))
  case atStart => exact ⟨p0, n0, [], [], false, rfl, rfl, rfl, rfl, rfl, HS, Lib.hid (fun h => by cases h), Lib.hid (Below.refl _ _)⟩
  case round =>
    obtain ⟨p, n, again, fr, star, rfl, rfl, rfl, rfl, rfl, HP, HPA, HB⟩ := hrel
    clear HS
    have hlp := HP.out.lp
    have hln := HP.out.ln
    have hlf := HP.out.lf
    have hla := HP.out.la
    have HLF := Lib.hid hlf
    by_cases hn0 : n = []
    · subst hn0
      have hfin := HP.out.fin
      have htr := Tryd.strings_Trim_one ⟨p.toArray⟩ 42 (by decide) wr (by simp [ByteArray.size]; omega)
      have hts := trimB_star p
      rw [show (ByteArray.mk p.toArray).data.toList = p from rfl] at htr
      generalize Lib.trimB p 42 = tr at *
      have HTR := Lib.hid htr
      have HF := Lib.hid (show tr.isEmpty = res by rw [hts, ← hfin]; exact HRES.out)
      clear htr hts hfin
      go_wp2_with (fail)
      refine HTR.out.mono ?_
      rintro e w1 ⟨rfl, hw1⟩
      have hb1 : Below wr.heap.size wr w1 := by rcases hw1 with rfl | rfl; exact Below.refl _ _; exact (Below.refl _ _).drew
      clear hw1
      go_wp2_with (fail)
      go_ret
      exact ⟨by rw [← HF.out]; rfl, HB.out.trans (hb1.mono HB.out.size)⟩
    have hne : n.isEmpty = false := by cases n; exact absurd rfl hn0; rfl
    have hpre := HPRE.out p
    rcases (show (∃ q, p = 42 :: q) ∨ (∀ c q, p = c :: q → c ≠ 42) from by
      cases p with
      | nil => exact .inr (fun c q e => by cases e)
      | cons c q =>
        by_cases h : c = 42
        · exact .inl ⟨q, by rw [h]⟩
        · exact .inr (fun c' q' e => by injection e with e _; rw [← e]; exact h)) with ⟨q, rfl⟩ | hc
    · have HP2 := Lib.hid HP.out.star
      have hpr : ∀ W, Calls Tryd.prog 43 #[.string ⟨(42 :: q : List UInt8).toArray⟩, .string ⟨#[42]⟩] W (Ret W (.bool true)) := fun W => (hpre W).mono fun _ _ ⟨he, hw⟩ => ⟨he, hw ▸ Below.refl _ _⟩
      have HPR := Lib.hid hpr
      have hql : q.length + 1 ≤ p0.length := by simpa using hlp
      have HM := Lib.hid (show q.length < (if star then again.length else p0.length + 1) by
        cases star with
        | true => have := HPA.out rfl; simp at this; rw [if_pos rfl]; omega
        | false => rw [if_neg (by decide)]; omega)
      clear hpre hpr hn0 hla hlf hlp
      go_wp2_with (fail)
      refine (HPR.out _).mono ?_
      rintro e w1 ⟨rfl, hw1⟩
      have HB1 := Lib.hid (HB.out.trans (hw1.mono HB.out.size))
      clear hw1
      go_wp2_with (fail)
      go_roundw
      case rel => exact ⟨q, n, q, n, true, rfl, rfl, rfl, rfl, rfl, HP2, Lib.hid (fun _ => Nat.le_refl _), HB1⟩
      case measure =>
        have := meas_star (P := p0.length) (N := n0.length) (tf := fr.length) (tn := n.length) HM.out hln hln
        simpa [strLenG, starOf, ByteArray.size] using this
    · obtain ⟨r1, r2⟩ := valid_next hn0 HP.out.vn
      have hrr := (runeT_rune hn0 r1).1
      have hpr : ∀ W, Calls Tryd.prog 43 #[.string ⟨p.toArray⟩, .string ⟨#[42]⟩] W (Ret W (.bool false)) := fun W => (hpre W).mono fun _ _ ⟨he, hw⟩ => ⟨by
        rw [he]
        congr 2
        show [(42 : UInt8)].isPrefixOf p = false
        cases p with
        | nil => rfl
        | cons c q =>
          rw [← Bool.not_eq_true, List.isPrefixOf_iff_prefix]
          rintro ⟨t, e⟩
          injection e with e _
          exact hc c q rfl e.symm, hw ▸ Below.refl _ _⟩
      have HPR := Lib.hid hpr
      have hdec := fun W (hb : Below w.heap.size w W) => dec_any_valid n hn0 HP.out.vn W (HT.out W hb)
      have hwl := runeW_le' hn0
      have HN0 := Lib.hid hn0
      have HDEC := Lib.hid hdec
      clear hpre hpr hdec r2
      cases p with
      | nil =>
        cases star with
        | false =>
          have HF := Lib.hid (show res = false by rw [← HRES.out]; exact HP.out.fail hn0 (.inl rfl))
          clear hn0 hrr hwl r1 hc
          generalize valR (runeT n) = v at *
          generalize runeW n = k at *
          go_wp2_with (fail)
          refine (HPR.out _).mono ?_
          rintro e w1 ⟨rfl, hw1⟩
          have hB1 := HB.out.trans (hw1.mono HB.out.size)
          clear hw1
          go_wp2_with (fail)
          refine (HDEC.out _ hB1).mono ?_
          rintro e w2 ⟨rfl, hw2⟩
          have hB2 := hB1.trans (hw2.mono hB1.size)
          clear hw2 hB1
          go_wp2_with (fail)
          go_ret
          exact ⟨by rw [HF.out]; rfl, hB2⟩
        | true =>
          obtain ⟨f1, f2, hS2⟩ := HP.out.back hn0 (.inl rfl)
          have HS2 := Lib.hid hS2
          have hfd := fun W (hb : Below w.heap.size w W) => dec_any_valid fr f1 HP.out.vf W (HT.out W hb)
          have HFD := Lib.hid hfd
          have hfl := runeW_le' f1
          have hz2 : (0 : Int) ≤ (runeW fr : Int) := by omega
          clear hS2 hfd f1 hn0 hrr hwl r1 hc
          generalize valR (runeT n) = v at *
          generalize runeW n = k at *
          generalize valR (runeT fr) = v2 at *
          generalize hk2 : runeW fr = k2 at *
          generalize hff : fr.drop k2 = fr2 at *
          have HFF := Lib.hid hff
          have hfr2 : fr2.length < fr.length := by rw [← hff]; simp; omega
          have htk2 : fr2.take (fr.length - k2) = fr2 := List.take_of_length_le (by rw [← hff]; simp)
          go_wp2_with (fail)
          refine (HPR.out _).mono ?_
          rintro e w1 ⟨rfl, hw1⟩
          have hB1 := HB.out.trans (hw1.mono HB.out.size)
          clear hw1
          go_wp2_with (fail)
          refine (HDEC.out _ hB1).mono ?_
          rintro e w2 ⟨rfl, hw2⟩
          have hB2 := hB1.trans (hw2.mono hB1.size)
          clear hw2 hB1
          go_wp2_with (fail)
          refine (HFD.out _ hB2).mono ?_
          rintro e w3 ⟨rfl, hw3⟩
          have HB3 := Lib.hid (hB2.trans (hw3.mono hB2.size))
          clear hw3 hB2
          go_wp2_with (fail)
          go_roundw
          case rel => exact ⟨again, fr2, again, fr2, true, rfl, rfl, rfl, rfl, rfl, HS2, Lib.hid (fun _ => Nat.le_refl _), HB3⟩
          case measure =>
            have := meas_back (P := p0.length) (N := n0.length) (ta := again.length) (tn := n.length) (star := true) hfr2 (show fr2.length ≤ n0.length by have := HLF.out; omega)
            simpa [strLenG, starOf, ByteArray.size] using this
      | cons c q =>
        have hc42 := hc c q rfl
        have hone := fun W (hb : Below w.heap.size w W) => one_any c q (runeT n) W (HT.out W hb) HP.out.vp HP.out.wp hrr (by omega)
        have hst1 := fun h => HP.out.one (c := c) (q := q) hc42 hn0 h
        unfold OneOut at hone
        have hle1 : ((c :: q).drop (oneP (c :: q) []).2).length ≤ (c :: q).length := by rw [List.length_drop]; omega
        have hno : (oneP (c :: q) (runeT n)).1 = false → ((c :: q) = [] ∨ ∃ c' q', (c :: q) = c' :: q' ∧ c' ≠ 42 ∧ (oneP (c :: q) (runeT n)).1 = false) := fun h => .inr ⟨c, q, rfl, hc42, h⟩
        generalize hrest : (c :: q).drop (oneP (c :: q) []).2 = rest at *
        cases ho : (oneP (c :: q) (runeT n)).1 with
        | true =>
          rw [ho] at hone
          have HONE := Lib.hid hone
          have HST := Lib.hid (hst1 ho)
          have HLE := Lib.hid hle1
          have hz : (0 : Int) ≤ (runeW n : Int) := by omega
          clear hone hst1 ho hno hrest hn0 hrr hc hc42
          generalize valR (runeT n) = v at *
          generalize hk : runeW n = k at *
          generalize hnn : n.drop k = n2 at *
          have HNN := Lib.hid hnn
          have hn2 : n2.length < n.length := by rw [← hnn]; simp; omega
          have htk : n2.take (n.length - k) = n2 := List.take_of_length_le (by rw [← hnn]; simp)
          go_wp2_with (fail)
          refine (HPR.out _).mono ?_
          rintro e w1 ⟨rfl, hw1⟩
          have hB1 := HB.out.trans (hw1.mono HB.out.size)
          clear hw1
          go_wp2_with (fail)
          refine (HDEC.out _ hB1).mono ?_
          rintro e w2 ⟨rfl, hw2⟩
          have hB2 := hB1.trans (hw2.mono hB1.size)
          clear hw2 hB1
          go_wp2_with (fail)
          refine (HONE.out _ hB2).mono ?_
          rintro e w3 ⟨rfl, hw3⟩
          have hB3 := hB2.trans (hw3.mono hB2.size)
          clear hw3 hB2
          go_wp2_with (fail)
          refine wp_region_below (by kernel_rfl) (by kernel_rfl) ?_
          repeat (go_big_quiet_step (fail))
          refine wpQuiet_nil ?_
          intro W4 hW4
          have HB4 := Lib.hid (hB3.trans (hW4.mono hB3.size))
          clear hW4 hB3
          go_wp2_with (fail)
          go_roundw
          case rel => exact ⟨rest, n2, again, fr, star, rfl, rfl, rfl, rfl, rfl, HST, Lib.hid (fun h => Nat.le_trans HLE.out (HPA.out h)), HB4⟩
          case measure =>
            have := meas_one (P := p0.length) (N := n0.length) (ta := again.length) (tf := fr.length) (star := star) hn2
            simpa [strLenG, starOf, ByteArray.size] using this
        | false =>
          rw [ho] at hone
          have HONE := Lib.hid hone
          have hno := hno ho
          clear hone hst1 ho hrest hle1
          cases star with
          | false =>
            have HF := Lib.hid (show res = false by rw [← HRES.out]; exact HP.out.fail hn0 hno)
            clear hn0 hrr hwl r1 hc hno hc42
            generalize valR (runeT n) = v at *
            generalize runeW n = k at *
            go_wp2_with (fail)
            refine (HPR.out _).mono ?_
            rintro e w1 ⟨rfl, hw1⟩
            have hB1 := HB.out.trans (hw1.mono HB.out.size)
            clear hw1
            go_wp2_with (fail)
            refine (HDEC.out _ hB1).mono ?_
            rintro e w2 ⟨rfl, hw2⟩
            have hB2 := hB1.trans (hw2.mono hB1.size)
            clear hw2 hB1
            go_wp2_with (fail)
            refine (HONE.out _ hB2).mono ?_
            rintro e w3 ⟨rfl, hw3⟩
            have hB3 := hB2.trans (hw3.mono hB2.size)
            clear hw3 hB2
            go_wp2_with (fail)
            go_ret
            exact ⟨by rw [HF.out]; rfl, hB3⟩
          | true =>
            obtain ⟨f1, f2, hS2⟩ := HP.out.back hn0 (hno)
            have HS2 := Lib.hid hS2
            have hfd := fun W (hb : Below w.heap.size w W) => dec_any_valid fr f1 HP.out.vf W (HT.out W hb)
            have HFD := Lib.hid hfd
            have hfl := runeW_le' f1
            have hz2 : (0 : Int) ≤ (runeW fr : Int) := by omega
            clear hS2 hfd f1 hn0 hrr hwl r1 hc hno hc42
            generalize valR (runeT n) = v at *
            generalize runeW n = k at *
            generalize valR (runeT fr) = v2 at *
            generalize hk2 : runeW fr = k2 at *
            generalize hff : fr.drop k2 = fr2 at *
            have HFF := Lib.hid hff
            have hfr2 : fr2.length < fr.length := by rw [← hff]; simp; omega
            have htk2 : fr2.take (fr.length - k2) = fr2 := List.take_of_length_le (by rw [← hff]; simp)
            go_wp2_with (fail)
            refine (HPR.out _).mono ?_
            rintro e w1 ⟨rfl, hw1⟩
            have hB1 := HB.out.trans (hw1.mono HB.out.size)
            clear hw1
            go_wp2_with (fail)
            refine (HDEC.out _ hB1).mono ?_
            rintro e w2 ⟨rfl, hw2⟩
            have hB2 := hB1.trans (hw2.mono hB1.size)
            clear hw2 hB1
            go_wp2_with (fail)
            refine (HONE.out _ hB2).mono ?_
            rintro e w2b ⟨rfl, hw2b⟩
            have hB2b := hB2.trans (hw2b.mono hB2.size)
            clear hw2b hB2
            go_wp2_with (fail)
            refine (HFD.out _ hB2b).mono ?_
            rintro e w3 ⟨rfl, hw3⟩
            have HB3 := Lib.hid (hB2b.trans (hw3.mono hB2b.size))
            clear hw3 hB2b
            go_wp2_with (fail)
            go_roundw
            case rel => exact ⟨again, fr2, again, fr2, true, rfl, rfl, rfl, rfl, rfl, HS2, Lib.hid (fun _ => Nat.le_refl _), HB3⟩
            case measure =>
              have := meas_back (P := p0.length) (N := n0.length) (ta := again.length) (tn := n.length) (star := true) hfr2 (show fr2.length ≤ n0.length by have := HLF.out; omega)
              simpa [strLenG, starOf, ByteArray.size] using this
end Go.Proofs.YtgppfcaghjbjmaaDoor
