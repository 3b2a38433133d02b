/- Texts joined: Glob1, Glob2, Glob3. -/
import Derived.Test.YtjhjepkmcbjgoaaDoorBPlanBase14
import Derived.Test.YtjhjepkmcbjgoaaDoorBPlanBase13
import Derived.IntWalk
import Derived.Lib.OthersKept
import Derived.WalkSmall
import Derived.BigCall
set_option linter.unusedSimpArgs false
set_option linter.unusedVariables false

/- glob.invalid, glob.set. -/
section
namespace Go.Proofs.YtjhjepkmcbjgoaaDoor
open Go.RowKit Plain

theorem decodeGo_L {l : List UInt8} (hne : l ≠ []) : Lib.decodeGo ⟨l.toArray⟩ = Lib.decodeL l := by
  unfold Lib.decodeGo
  rw [if_neg (by simpa [ByteArray.size] using hne)]
  rfl
theorem Decode_any (l : List UInt8) (hne : l ≠ []) (w : World) (hT : Tabs w) :
    Calls Tryd.prog 45 #[.string ⟨l.toArray⟩] w (Ret w (.tuple #[.int .i32 (Lib.decodeL l).1, .int .i64 (Lib.decodeL l).2])) := by
  have h := Tryd.utf8_DecodeRuneInString ⟨l.toArray⟩ w hT
  rw [decodeGo_L hne] at h
  exact h.mono fun _ _ ⟨he, hw⟩ => ⟨he, hw⟩

set_option maxHeartbeats 1000000 in
theorem invalid_any (s : List UInt8) (w : World) (hT : Tabs w) (hs : s.length ≤ 4294967280) :
    Calls Tryd.prog 36 #[.string ⟨s.toArray⟩] w (Ret w (.int .i64 (badI (badP s)))) := by
  have HD := Lib.hid (fun (l : List UInt8) (hne : l ≠ []) W (hb : Below w.heap.size w W) => Decode_any l hne W (Utf8Tabs_below hT hb))
  clear hT
  have hsz : (ByteArray.mk s.toArray).size = s.length := by simp [ByteArray.size]
  go_enter Tryd.func36, Tryd.ntmps36
  go_wp2_with (fail)
  go_loopw [] (fun wr => ∃ pos : Nat, pos ≤ s.length ∧ wr.heap[w.heap.size]? = some (.stringIter ⟨s.toArray⟩ pos) ∧ Hid (badP s = badAt pos (s.drop pos)) ∧ Hid (Below w.heap.size w wr)) (fun wr => s.length - wr.iterPos w.heap.size)
  case atStart => exact ⟨0, by omega, by simpa using World.iter_heap w ⟨s.toArray⟩ 0, Lib.hid (by rw [List.drop_zero]; rfl), Lib.hid ((Below.refl _ w).alloc (Nat.le_refl _) _)⟩
  case round =>
    obtain ⟨pos, hp, hit, HE, HB⟩ := hrel
    have hlt := (Array.getElem?_eq_some_iff.1 hit).1
    by_cases hlp : pos < s.length
    · have hne : s.drop pos ≠ [] := by intro e; have := congrArg List.length e; simp at this; omega
      have hst := badAt_step (k := pos) hne
      have hwle := runeW_le s pos hlp
      have hd := dec_at s pos
      have hdd := HD.out _ hne
      have hw1 : 1 ≤ (Lib.decodeL (s.drop pos)).2 := Lib.decodeL_width _
      have hwl : (Lib.decodeL (s.drop pos)).2 ≤ s.length - pos := by have := Lib.decodeL_le _ hne; simpa using this
      have hr : runeW (s.drop pos) = if (Lib.decodeL (s.drop pos)).1 = 65533 ∧ (Lib.decodeL (s.drop pos)).2 = 1 then 0 else (Lib.decodeL (s.drop pos)).2 := rfl
      have hnx : ∀ ty, (Instr.next (.pointer (some ⟨w.heap.size, 0, none⟩)) true ty).run Tryd.prog wr = _ := fun ty => Lib.run_next_any_at wr w.heap.size ⟨s.toArray⟩ pos ty hit (by rw [hsz]; exact hlp)
      rw [hd] at hnx
      generalize (Lib.decodeL (s.drop pos)).1 = v at *
      generalize (Lib.decodeL (s.drop pos)).2 = k at *
      have HST := Lib.hid hst
      have HR := Lib.hid hr
      have hit2 := Lib.iterAt_heap wr w.heap.size ⟨s.toArray⟩ pos (pos + k) hit
      have hb2 := Lib.below_iterAt HB.out (k := w.heap.size) (Nat.le_refl _) ⟨s.toArray⟩ (pos + k)
      have HB2 := Lib.hid hb2
      have HDD := Lib.hid hdd
      have HIT := Lib.hid (iterPos_of hit)
      have hi0 : (0 : Int) ≤ pos := by omega
      clear hst hr hb2 hdd hd HD
      by_cases h1 : v = 65533
      · have hv : ((v : Int) == 65533) = true := by simp; omega
        by_cases h2 : k = 1
        · have hk : ((k : Int) == 1) = true := by simp; omega
          have HZ := Lib.hid (show runeW (s.drop pos) = 0 by rw [HR.out, if_pos ⟨h1, h2⟩])
          clear h1 h2
          generalize wr.iterAt w.heap.size ⟨s.toArray⟩ (pos + k) = W2 at *
          go_wp2_with (fail)
          refine (HDD.out _ HB2.out).mono ?_
          rintro e w1 ⟨rfl, hw1⟩
          go_wp2_with (fail)
          go_ret
          exact ⟨by rw [HE.out, HST.out, if_pos HZ.out]; rfl, HB2.out.trans (hw1.mono HB2.out.size)⟩
        · have hk : ((k : Int) == 1) = false := by simp; omega
          have HZ := Lib.hid (show runeW (s.drop pos) = k by rw [HR.out, if_neg (fun c => h2 c.2)])
          clear h1 h2
          generalize hW2 : wr.iterAt w.heap.size ⟨s.toArray⟩ (pos + k) = W2 at *
          clear hW2
          go_wp2_with (fail)
          refine (HDD.out _ HB2.out).mono ?_
          rintro e w1 ⟨rfl, hw1⟩
          have hb3 := HB2.out.trans (hw1.mono HB2.out.size)
          have hit3 : w1.heap[w.heap.size]? = some (.stringIter ⟨s.toArray⟩ (pos + k)) := (hw1.block _ (Array.getElem?_eq_some_iff.1 hit2).1).trans hit2
          have HB3 := Lib.hid hb3
          clear hw1 hb3
          go_wp2_with (fail)
          go_roundw
          case rel => exact ⟨pos + k, by omega, hit3, Lib.hid (by rw [HE.out, HST.out, HZ.out, if_neg (by omega), List.drop_drop]), HB3⟩
          case measure => rw [iterPos_of hit3, HIT.out]; omega
      · have hv : ((v : Int) == 65533) = false := by simp; omega
        have HZ := Lib.hid (show runeW (s.drop pos) = k by rw [HR.out, if_neg (fun c => h1 c.1)])
        clear h1
        generalize hW2 : wr.iterAt w.heap.size ⟨s.toArray⟩ (pos + k) = W2 at *
        clear hW2
        go_wp2_with (fail)
        go_roundw
        case rel => exact ⟨pos + k, by omega, hit2, Lib.hid (by rw [HE.out, HST.out, HZ.out, if_neg (by omega), List.drop_drop]), HB2⟩
        case measure => rw [iterPos_of hit2, HIT.out]; omega
    · have hnx : ∀ ty, (Instr.next (.pointer (some ⟨w.heap.size, 0, none⟩)) true ty).run Tryd.prog wr = _ := fun ty => Lib.run_next_end_at wr w.heap.size ⟨s.toArray⟩ pos ty hit (by rw [hsz]; exact hlp)
      have HZ := Lib.hid (show badP s = none by rw [HE.out, List.drop_eq_nil_of_le (by omega)]; rfl)
      go_wp2_with (fail)
      go_ret
      exact ⟨by rw [HZ.out]; rfl, HB.out⟩

/-- What set gives. -/
def SetOut (s : List UInt8) (w : World) (e : Ending) (w' : World) : Prop :=
  (∀ k, closeP s = some k → e = .returned (.tuple #[.string ⟨((s.take k).drop 1).toArray⟩, .string ⟨(s.drop (k + 1)).toArray⟩, .bool true])) ∧ (closeP s = none → ∃ a b : ByteArray, e = .returned (.tuple #[.string a, .string b, .bool false])) ∧ Below w.heap.size w w'

def strLenG : Value → Nat
  | .string x => x.size
  | _ => 0

theorem u8_ne {c : UInt8} {n : Nat} (hn : n < 256) (h : c ≠ UInt8.ofNat n) : ((c.toNat : Int) == (n : Int)) = false := by
  rw [beq_eq_false_iff_ne]
  intro e
  apply h
  apply UInt8.toNat.inj
  have : c.toNat = n := by omega
  rw [this]; simp; omega

set_option maxHeartbeats 2000000 in
set_option maxRecDepth 10000 in
theorem set_any (r : List UInt8) (w : World) (hs : (91 :: r).length ≤ 4294967280) :
    Calls Tryd.prog 37 #[.string ⟨(91 :: r : List UInt8).toArray⟩] w (SetOut (91 :: r) w) := by
  have hpre := Tryd.strings_HasPrefix ⟨r.toArray⟩ ⟨[(33 : UInt8)].toArray⟩
  obtain ⟨f, hf, hf12, hfl⟩ : ∃ f, setFrom (91 :: r) = f ∧ ((f = 1 ∧ [(33 : UInt8)].isPrefixOf r = false) ∨ (f = 2 ∧ [(33 : UInt8)].isPrefixOf r = true)) ∧ f ≤ (91 :: r).length := by
    cases r with
    | nil => exact ⟨1, rfl, .inl ⟨rfl, rfl⟩, by simp⟩
    | cons c r =>
      by_cases h : c = 33
      · subst h; exact ⟨2, setFrom_2 rfl, .inr ⟨rfl, by simp⟩, by simp⟩
      · have hpf : [(33 : UInt8)].isPrefixOf (c :: r) = false := by
          rw [← Bool.not_eq_true, List.isPrefixOf_iff_prefix]
          intro e; obtain ⟨t, e⟩ := e; injection e with e _; exact h e.symm
        exact ⟨1, setFrom_1 (by simpa using h), .inl ⟨rfl, hpf⟩, by simp⟩
  have hd1 : (91 :: r : List UInt8).drop 1 = r := rfl
  have hl1 : 1 ≤ (91 :: r : List UInt8).length := by simp
  have hcl := closeA_closeP (91 :: r)
  rw [hf] at hcl
  generalize hss : (91 :: r : List UInt8) = s at *
  have hpre2 : ∀ w, Calls Tryd.prog 44 #[.string ⟨r.toArray⟩, .string ⟨#[33]⟩] w (Ret w (.bool ([(33 : UInt8)].isPrefixOf r))) := fun w => (hpre w).mono fun _ _ ⟨he, hw⟩ => ⟨he, hw ▸ Below.refl _ _⟩
  have HCL := Lib.hid hcl
  have HF := Lib.hid hf
  have HSS := Lib.hid hss
  have hdt : r.take (s.length - 1) = r := by have := HSS.out; subst this; simp
  clear hpre hcl hss
  rcases hf12 with ⟨rfl, hb⟩ | ⟨rfl, hb⟩
  · rw [hb] at hpre2
    have HP := Lib.hid hpre2
    clear hpre2 hb hf
    have HFF := Lib.hid (show setFrom s = 1 from HF.out)
    go_enter Tryd.func37, Tryd.ntmps37
    go_wp2_with (fail)
    refine (HP.out _).mono ?_
    rintro e w1 ⟨rfl, hw1⟩
    have HB1 := Lib.hid hw1
    clear hw1 hdt hd1
    go_wp2_with (fail)
    go_loopw [6] (fun t6 W => ∃ i : Nat, i ≤ s.length ∧ t6 = .int .i64 i ∧ 1 ≤ i ∧ Hid (closeP s = closeA s i) ∧ Hid (Below w.heap.size w W)) (fun t6 _ => s.length - (intOf t6).toNat)
    case atStart => exact ⟨1, by omega, rfl, by omega, Lib.hid (by rw [← HCL.out]), HB1⟩
    case round =>
      obtain ⟨i, hi, rfl, hfi, HC, HB⟩ := hrel
      have hi0 : (0 : Int) ≤ i := by omega
      by_cases hlt : i < s.length
      · have hst := closeA_step hlt
        rw [HFF.out] at hst
        by_cases h92 : s[i] = 92
        · rw [if_neg (by rw [h92]; decide), if_pos h92] at hst
          have e1 : IntKind.i64.wrap ((i : Int) + 1) = (i : Int) + 1 := IntWalk.i64_in _ (by omega)
          have hx : ((i : Int) + 1).toNat = i + 1 := by omega
          by_cases hl1 : i + 1 < s.length
          · rw [dif_pos hl1] at hst
            have hq : ((i : Int) + 1 == (s.length : Int)) = false := by simp; omega
            have hq1 : (i : Int) + 1 < (s.length : Int) := by omega
            have hq0 : (0 : Int) ≤ (i : Int) + 1 := by omega
            by_cases h47 : s[i + 1] = 47
            · rw [if_pos h47] at hst
              have HN := Lib.hid (HC.out.trans hst)
              clear hst
              go_wp2_with (fail)
              go_ret3
              exact ⟨fun k hk => by (rw [HN.out] at hk; cases hk), fun _ => ⟨_, _, rfl⟩, HB.out⟩
            · rw [if_neg h47] at hst
              have HN := Lib.hid (HC.out.trans hst)
              clear hst
              generalize hd : s[i + 1] = d at *
              have h47' := u8_ne (n := 47) (by omega) h47
              clear h47
              go_wp2_with (fail)
              go_roundw
              case rel => exact ⟨i + 2, by omega, by go_num, by omega, HN, HB⟩
              case measure => simp [intOf]; omega
          · rw [dif_neg hl1] at hst
            have hq : ((i : Int) + 1 == (s.length : Int)) = true := by simp; omega
            have HN := Lib.hid (HC.out.trans hst)
            clear hst
            go_wp2_with (fail)
            go_ret3
            exact ⟨fun k hk => by (rw [HN.out] at hk; cases hk), fun _ => ⟨_, _, rfl⟩, HB.out⟩
        · rw [if_neg h92] at hst
          by_cases h47 : s[i] = 47
          · rw [if_pos h47] at hst
            have HN := Lib.hid (HC.out.trans hst)
            clear hst h92
            go_wp2_with (fail)
            go_ret3
            exact ⟨fun k hk => by (rw [HN.out] at hk; cases hk), fun _ => ⟨_, _, rfl⟩, HB.out⟩
          · rw [if_neg h47] at hst
            by_cases h93 : s[i] = 93
            · rw [if_pos h93] at hst
              by_cases hif : i = 1
              · rw [if_pos hif] at hst
                have HN := Lib.hid (HC.out.trans hst)
                have hq : decide ((1 : Int) < (i : Int)) = false := by simp; omega
                have HIF := Lib.hid hif
                clear hif
                clear hst h92 h47
                have e1 : IntKind.i64.wrap ((i : Int) + 1) = (i : Int) + 1 := IntWalk.i64_in _ (by omega)
                have hx : ((i : Int) + 1).toNat = i + 1 := by omega
                have hq1 : (i : Int) + 1 ≤ (s.length : Int) := by omega
                have hq0 : (0 : Int) ≤ (i : Int) + 1 := by omega
                go_wp2_with (fail)
                refine wp_region_below (by kernel_rfl) (by kernel_rfl) ?_
                repeat (go_big_quiet_step (fail))
                refine wpQuiet_nil ?_
                intro W2 hW2
                go_wp2_with (fail)
                go_ret3
                exact ⟨fun k hk => by (rw [HN.out] at hk; cases hk), fun _ => ⟨_, _, rfl⟩, HB.out.trans (hW2.mono HB.out.size)⟩
              · rw [if_neg hif] at hst
                have HN := Lib.hid (HC.out.trans hst)
                have hq : decide ((1 : Int) < (i : Int)) = true := by simp; omega
                clear hst h92 h47
                have e1 : IntKind.i64.wrap ((i : Int) + 1) = (i : Int) + 1 := IntWalk.i64_in _ (by omega)
                have hx : ((i : Int) + 1).toNat = i + 1 := by omega
                have hq1 : (i : Int) + 1 ≤ (s.length : Int) := by omega
                have hq0 : (0 : Int) ≤ (i : Int) + 1 := by omega
                have ht1 : (s.drop (i + 1)).take (s.length - (i + 1)) = s.drop (i + 1) := List.take_of_length_le (by simp)
                have HT2 := Lib.hid (show (s.drop 1).take (i - 1) = (s.take i).drop 1 by rw [List.drop_take])
                go_wp2_with (fail)
                refine wp_region_below (by kernel_rfl) (by kernel_rfl) ?_
                repeat (go_big_quiet_step (fail))
                refine wpQuiet_nil ?_
                intro W2 hW2
                go_wp2_with (fail)
                go_ret3
                refine ⟨fun k hk => ?_, fun hk => ?_, HB.out.trans (hW2.mono HB.out.size)⟩
                · rw [HN.out] at hk
                  injection hk with hk
                  subst hk
                  rw [← HT2.out, List.drop_one]
                  rfl
                · rw [HN.out] at hk; cases hk
            · rw [if_neg h93] at hst
              have HN := Lib.hid (HC.out.trans hst)
              clear hst
              generalize hc : s[i] = c at *
              have h92' := u8_ne (n := 92) (by omega) h92
              have h47' := u8_ne (n := 47) (by omega) h47
              have h93' := u8_ne (n := 93) (by omega) h93
              clear h92 h47 h93
              go_wp2_with (fail)
              go_roundw
              case rel => exact ⟨i + 1, by omega, by go_num, by omega, HN, HB⟩
              case measure => simp [intOf]; omega
      · have HN := Lib.hid (HC.out.trans (closeA_end (by omega)))
        go_wp2_with (fail)
        go_ret3
        exact ⟨fun k hk => by (rw [HN.out] at hk; cases hk), fun _ => ⟨_, _, rfl⟩, HB.out⟩
  · rw [hb] at hpre2
    have HP := Lib.hid hpre2
    clear hpre2 hb hf
    have HFF := Lib.hid (show setFrom s = 2 from HF.out)
    go_enter Tryd.func37, Tryd.ntmps37
    go_wp2_with (fail)
    refine (HP.out _).mono ?_
    rintro e w1 ⟨rfl, hw1⟩
    have HB1 := Lib.hid hw1
    clear hw1 hdt hd1
    go_wp2_with (fail)
    go_loopw [6] (fun t6 W => ∃ i : Nat, i ≤ s.length ∧ t6 = .int .i64 i ∧ 2 ≤ i ∧ Hid (closeP s = closeA s i) ∧ Hid (Below w.heap.size w W)) (fun t6 _ => s.length - (intOf t6).toNat)
    case atStart => exact ⟨2, by omega, rfl, by omega, Lib.hid (by rw [← HCL.out]), HB1⟩
    case round =>
      obtain ⟨i, hi, rfl, hfi, HC, HB⟩ := hrel
      have hi0 : (0 : Int) ≤ i := by omega
      by_cases hlt : i < s.length
      · have hst := closeA_step hlt
        rw [HFF.out] at hst
        by_cases h92 : s[i] = 92
        · rw [if_neg (by rw [h92]; decide), if_pos h92] at hst
          have e1 : IntKind.i64.wrap ((i : Int) + 1) = (i : Int) + 1 := IntWalk.i64_in _ (by omega)
          have hx : ((i : Int) + 1).toNat = i + 1 := by omega
          by_cases hl1 : i + 1 < s.length
          · rw [dif_pos hl1] at hst
            have hq : ((i : Int) + 1 == (s.length : Int)) = false := by simp; omega
            have hq1 : (i : Int) + 1 < (s.length : Int) := by omega
            have hq0 : (0 : Int) ≤ (i : Int) + 1 := by omega
            by_cases h47 : s[i + 1] = 47
            · rw [if_pos h47] at hst
              have HN := Lib.hid (HC.out.trans hst)
              clear hst
              go_wp2_with (fail)
              go_ret3
              exact ⟨fun k hk => by (rw [HN.out] at hk; cases hk), fun _ => ⟨_, _, rfl⟩, HB.out⟩
            · rw [if_neg h47] at hst
              have HN := Lib.hid (HC.out.trans hst)
              clear hst
              generalize hd : s[i + 1] = d at *
              have h47' := u8_ne (n := 47) (by omega) h47
              clear h47
              go_wp2_with (fail)
              go_roundw
              case rel => exact ⟨i + 2, by omega, by go_num, by omega, HN, HB⟩
              case measure => simp [intOf]; omega
          · rw [dif_neg hl1] at hst
            have hq : ((i : Int) + 1 == (s.length : Int)) = true := by simp; omega
            have HN := Lib.hid (HC.out.trans hst)
            clear hst
            go_wp2_with (fail)
            go_ret3
            exact ⟨fun k hk => by (rw [HN.out] at hk; cases hk), fun _ => ⟨_, _, rfl⟩, HB.out⟩
        · rw [if_neg h92] at hst
          by_cases h47 : s[i] = 47
          · rw [if_pos h47] at hst
            have HN := Lib.hid (HC.out.trans hst)
            clear hst h92
            go_wp2_with (fail)
            go_ret3
            exact ⟨fun k hk => by (rw [HN.out] at hk; cases hk), fun _ => ⟨_, _, rfl⟩, HB.out⟩
          · rw [if_neg h47] at hst
            by_cases h93 : s[i] = 93
            · rw [if_pos h93] at hst
              by_cases hif : i = 2
              · rw [if_pos hif] at hst
                have HN := Lib.hid (HC.out.trans hst)
                have hq : decide ((2 : Int) < (i : Int)) = false := by simp; omega
                have HIF := Lib.hid hif
                clear hif
                clear hst h92 h47
                have e1 : IntKind.i64.wrap ((i : Int) + 1) = (i : Int) + 1 := IntWalk.i64_in _ (by omega)
                have hx : ((i : Int) + 1).toNat = i + 1 := by omega
                have hq1 : (i : Int) + 1 ≤ (s.length : Int) := by omega
                have hq0 : (0 : Int) ≤ (i : Int) + 1 := by omega
                go_wp2_with (fail)
                refine wp_region_below (by kernel_rfl) (by kernel_rfl) ?_
                repeat (go_big_quiet_step (fail))
                refine wpQuiet_nil ?_
                intro W2 hW2
                go_wp2_with (fail)
                go_ret3
                exact ⟨fun k hk => by (rw [HN.out] at hk; cases hk), fun _ => ⟨_, _, rfl⟩, HB.out.trans (hW2.mono HB.out.size)⟩
              · rw [if_neg hif] at hst
                have HN := Lib.hid (HC.out.trans hst)
                have hq : decide ((2 : Int) < (i : Int)) = true := by simp; omega
                clear hst h92 h47
                have e1 : IntKind.i64.wrap ((i : Int) + 1) = (i : Int) + 1 := IntWalk.i64_in _ (by omega)
                have hx : ((i : Int) + 1).toNat = i + 1 := by omega
                have hq1 : (i : Int) + 1 ≤ (s.length : Int) := by omega
                have hq0 : (0 : Int) ≤ (i : Int) + 1 := by omega
                have ht1 : (s.drop (i + 1)).take (s.length - (i + 1)) = s.drop (i + 1) := List.take_of_length_le (by simp)
                have HT2 := Lib.hid (show (s.drop 1).take (i - 1) = (s.take i).drop 1 by rw [List.drop_take])
                go_wp2_with (fail)
                refine wp_region_below (by kernel_rfl) (by kernel_rfl) ?_
                repeat (go_big_quiet_step (fail))
                refine wpQuiet_nil ?_
                intro W2 hW2
                go_wp2_with (fail)
                go_ret3
                refine ⟨fun k hk => ?_, fun hk => ?_, HB.out.trans (hW2.mono HB.out.size)⟩
                · rw [HN.out] at hk
                  injection hk with hk
                  subst hk
                  rw [← HT2.out, List.drop_one]
                  rfl
                · rw [HN.out] at hk; cases hk
            · rw [if_neg h93] at hst
              have HN := Lib.hid (HC.out.trans hst)
              clear hst
              generalize hc : s[i] = c at *
              have h92' := u8_ne (n := 92) (by omega) h92
              have h47' := u8_ne (n := 47) (by omega) h47
              have h93' := u8_ne (n := 93) (by omega) h93
              clear h92 h47 h93
              go_wp2_with (fail)
              go_roundw
              case rel => exact ⟨i + 1, by omega, by go_num, by omega, HN, HB⟩
              case measure => simp [intOf]; omega
      · have HN := Lib.hid (HC.out.trans (closeA_end (by omega)))
        go_wp2_with (fail)
        go_ret3
        exact ⟨fun k hk => by (rw [HN.out] at hk; cases hk), fun _ => ⟨_, _, rfl⟩, HB.out⟩
end Go.Proofs.YtjhjepkmcbjgoaaDoor
end

/- glob.Check. -/
section
namespace Go.Proofs.YtjhjepkmcbjgoaaDoor
open Go.RowKit Plain

theorem u8_ne' {c : UInt8} {n : Nat} (hn : n < 256) (h : c ≠ UInt8.ofNat n) : decide ((c.toNat : Int) = (n : Int)) = false := by
  have := u8_ne hn h
  simpa using this

set_option maxHeartbeats 2000000 in
set_option maxRecDepth 10000 in
theorem Check_main (s : List UInt8) (w : World) (hT : Tabs w) (h0 : s ≠ []) (h400 : s.length ≤ 400) :
    Calls Tryd.prog 22 #[.string ⟨s.toArray⟩] w (Ret w (.tuple #[.int .i64 (checkP 400 s).1, .int .i64 (checkP 400 s).2])) := by
  have hinv := invalid_any s w hT (by omega)
  have hno : ¬ (s = [] ∨ 400 < s.length) := by rintro (h | h); exact h0 h; omega
  have hse : s.isEmpty = false := by cases s; exact absurd rfl h0; rfl
  have h4 : decide ((400 : Int) < (s.length : Int)) = false := by simp; omega
  cases hb : badP s with
  | some k =>
    rw [hb] at hinv
    have HC := Lib.hid (checkP_bad hno hb)
    have hk0 : decide ((0 : Int) ≤ (k : Int)) = true := by simp
    have HI := Lib.hid hinv
    clear hinv hno h0 hb hT
    go_enter Tryd.func22, Tryd.ntmps22
    go_wp2_with (fail)
    refine HI.out.mono ?_
    rintro e w1 ⟨rfl, hw1⟩
    go_wp2_with (fail)
    go_ret2
    exact ⟨by rw [HC.out]; rfl, hw1⟩
  | none =>
    rw [hb] at hinv
    have HC := Lib.hid (checkP_loop hno hb)
    have HI := Lib.hid hinv
    have HSET := Lib.hid (fun (r : List UInt8) W (h : (91 :: r).length ≤ 4294967280) => set_any r W h)
    clear hinv hno h0 hb hT
    go_enter Tryd.func22, Tryd.ntmps22
    go_wp2_with (fail)
    refine HI.out.mono ?_
    rintro e w1 ⟨rfl, hw1⟩
    have HB1 := Lib.hid hw1
    clear hw1
    go_wp2_with (fail)
    go_loopw [5, 6] (fun t5 t6 W => ∃ (k : Nat) (b : Bool) (r : List UInt8), k + r.length = s.length ∧ t6 = .string ⟨r.toArray⟩ ∧ t5 = .bool (!b) ∧ Hid (checkP 400 s = loopA k b r) ∧ Hid (Below w.heap.size w W)) (fun _ t6 _ => strLenG t6)
    case atStart => exact ⟨0, false, s, by omega, rfl, rfl, HC, HB1⟩
    case round =>
      obtain ⟨k, b, r, hkr, rfl, rfl, HE, HB⟩ := hrel
      cases r with
      | nil =>
        have HZ := Lib.hid (HE.out.trans (loopA_nil k b))
        go_wp2_with (fail)
        go_ret2
        exact ⟨by rw [HZ.out]; rfl, HB.out⟩
      | cons c q =>
        have hat : IntKind.i64.wrap ((s.length : Int) - ((q.length : Int) + 1)) = (k : Int) := by
          simp at hkr
          rw [show (s.length : Int) - ((q.length : Int) + 1) = k by omega]
          exact IntWalk.i64_in _ (by omega)
        have hkl : k + q.length + 1 = s.length := by simp at hkr; omega
        clear hkr
        by_cases h47 : c = 47
        · subst h47
          have hst := HE.out.trans loopA_slash
          cases b with
          | false =>
            rw [if_pos (.inl rfl)] at hst
            have HZ := Lib.hid hst
            clear hst
            go_wp2_with (fail)
            go_ret2
            exact ⟨by rw [HZ.out]; rfl, HB.out⟩
          | true =>
            cases q with
            | nil =>
              rw [if_pos (.inr rfl)] at hst
              have HZ := Lib.hid hst
              have HK := Lib.hid (show (k : Int) = (s.length : Int) - 1 by simp at hkl; omega)
              clear hst
              go_wp2_with (fail)
              go_ret2
              exact ⟨by rw [HZ.out]; show _ = Ending.returned (.tuple #[.int .i64 (k : Int), .int .i64 20]); rw [HK.out]; rfl, HB.out⟩
            | cons d q =>
              rw [if_neg (by simp)] at hst
              have HZ := Lib.hid hst
              have hq1 : ((q.length : Int) + 1 + 1 == 1) = false := by simp; omega
              clear hst
              go_wp2_with (fail)
              go_roundw
              case rel => exact ⟨k + 1, false, d :: q, by simp at hkl ⊢; omega, by simp, rfl, HZ, HB⟩
              case measure => simp [strLenG, ByteArray.size]
        have hc47 := u8_ne (n := 47) (by omega) h47
        by_cases h92 : c = 92
        · subst h92
          cases q with
          | nil =>
            have HZ := Lib.hid (HE.out.trans loopA_back0)
            have HK := Lib.hid (show (k : Int) = (s.length : Int) - 1 by simp at hkl; omega)
            go_wp2_with (fail)
            go_ret2
            exact ⟨by rw [HZ.out]; show _ = Ending.returned (.tuple #[.int .i64 (k : Int), .int .i64 20]); rw [HK.out]; rfl, HB.out⟩
          | cons d q =>
            have hst := HE.out.trans loopA_back
            have hat2 : IntKind.i64.wrap ((s.length : Int) - ((q.length : Int) + 1 + 1)) = (k : Int) := by
              simp at hkl
              rw [show (s.length : Int) - ((q.length : Int) + 1 + 1) = k by omega]
              exact IntWalk.i64_in _ (by omega)
            have hq1 : ((q.length : Int) + 1 + 1 == 1) = false := by simp; omega
            by_cases hd : d = 47
            · rw [if_pos hd] at hst
              have HZ := Lib.hid hst
              subst hd
              clear hst
              go_wp2_with (fail)
              go_ret2
              exact ⟨by rw [HZ.out]; rfl, HB.out⟩
            · rw [if_neg hd] at hst
              have HZ := Lib.hid hst
              have hd47 := u8_ne (n := 47) (by omega) hd
              clear hst hd
              go_wp2_with (fail)
              go_roundw
              case rel => exact ⟨k + 2, true, q, by simp at hkl ⊢; omega, by simp, rfl, HZ, HB⟩
              case measure => simp [strLenG, ByteArray.size]; omega
        have hc92 := u8_ne (n := 92) (by omega) h92
        by_cases h91 : c = 91
        · subst h91
          have hset := HSET.out q wr (by simp at hkl ⊢; omega)
          cases hcl : closeP (91 :: q) with
          | none =>
            have HZ := Lib.hid (HE.out.trans (loopA_set_none hcl))
            have HS := Lib.hid hset
            have HCL := Lib.hid hcl
            clear hset hcl
            go_wp2_with (fail)
            refine HS.out.mono ?_
            rintro e w2 ⟨_, h2, hw2⟩
            obtain ⟨a1, a2, rfl⟩ := h2 HCL.out
            go_wp2_with (fail)
            go_ret2
            exact ⟨by rw [HZ.out]; rfl, HB.out.trans (hw2.mono HB.out.size)⟩
          | some e =>
            have HZ := Lib.hid (HE.out.trans (loopA_set_some hcl))
            have HS := Lib.hid hset
            have HCL := Lib.hid hcl
            have hel : e < (91 :: q).length ∧ 1 ≤ e := by
              have h1 : setFrom (91 :: q) ≤ e ∧ e < setFrom (91 :: q) + ((91 :: q).drop (setFrom (91 :: q))).length ∧ e ≠ setFrom (91 :: q) ∧ ((91 :: q).drop (setFrom (91 :: q))).getD (e - setFrom (91 :: q)) 0 = 93 := closeF_le _ _ _ _ _ (Nat.le_refl _) hcl
              obtain ⟨h1, h2, _⟩ := h1
              have h3 : 1 ≤ setFrom (91 :: q) := by unfold setFrom; split <;> omega
              simp only [List.length_drop] at h2
              omega
            clear hset hcl
            generalize hrr : ((91 :: q : List UInt8).drop (e + 1)) = rr at *
            have hrl : k + e + 1 + rr.length = s.length := by rw [← hrr]; simp at hel ⊢; omega
            generalize ((91 :: q : List UInt8).take e).drop 1 = ii at *
            go_wp2_with (fail)
            refine HS.out.mono ?_
            rintro ee w2 ⟨h2, _, hw2⟩
            obtain rfl := h2 e HCL.out
            have HB2 := Lib.hid (HB.out.trans (hw2.mono HB.out.size))
            have HRR := Lib.hid hrr
            clear hw2 h2 hrr
            go_wp2_with (fail)
            go_roundw
            case rel => exact ⟨k + e + 1, true, rr, hrl, by rw [← HRR.out]; rfl, rfl, HZ, HB2⟩
            case measure =>
              have hq := HRR.out
              rw [List.drop_succ_cons] at hq
              rw [hq]; simp [strLenG, ByteArray.size]; omega
        have hc91 := u8_ne (n := 91) (by omega) h91
        have HZ := Lib.hid (HE.out.trans (loopA_one h47 h92 h91))
        clear h47 h92 h91
        go_wp2_with (fail)
        go_roundw
        case rel => exact ⟨k + 1, true, q, by omega, by simp, rfl, HZ, HB⟩
        case measure => simp [strLenG, ByteArray.size]

theorem Check_all (s : List UInt8) (w : World) (hT : Tabs w) :
    Calls Tryd.prog 22 #[.string ⟨s.toArray⟩] w (Ret w (.tuple #[.int .i64 (checkP 400 s).1, .int .i64 (checkP 400 s).2])) := by
  by_cases h0 : s = []
  · subst h0
    have HC := Lib.hid (checkP_long (m := 400) (s := []) (.inl rfl))
    go_enter Tryd.func22, Tryd.ntmps22
    go_wp2_with (fail)
    go_ret2
    exact ⟨by rw [HC.out]; rfl, Below.refl _ _⟩
  by_cases h4 : 400 < s.length
  · have HC := Lib.hid (checkP_long (m := 400) (s := s) (.inr h4))
    have hse : s.isEmpty = false := by cases s; exact absurd rfl h0; rfl
    have h4' : decide ((400 : Int) < (s.length : Int)) = true := by simp; omega
    clear h0 h4
    go_enter Tryd.func22, Tryd.ntmps22
    go_wp2_with (fail)
    go_ret2
    exact ⟨by rw [HC.out]; rfl, Below.refl _ _⟩
  exact Check_main s w hT h0 (by omega)
theorem Check_any (s : List UInt8) (w : World) (hT : Tabs w) (_ : s.length ≤ 9223372036854775807) :
    Calls Tryd.prog 22 #[.string ⟨s.toArray⟩] w (Ret w (.tuple #[.int .i64 (checkP 400 s).1, .int .i64 (checkP 400 s).2])) := Check_all s w hT
end Go.Proofs.YtjhjepkmcbjgoaaDoor
end

/- glob.holds. -/
section
namespace Go.Proofs.YtjhjepkmcbjgoaaDoor
open Go.RowKit Plain

def litV (x : Nat × Bool) : List Value := [.int .i32 x.1, .bool x.2]
theorem litV_length (x : Nat × Bool) : (litV x).length = 2 := rfl
theorem litV_oneCell (x : Nat × Bool) : ∀ u ∈ litV x, u.oneCell' = true := by intro u hu; simp [litV] at hu; rcases hu with rfl | rfl <;> rfl
theorem info_lit : (Tryd.prog.info? 109).map (fun i => (i.zero, i.size, i.bytes)) = some (some (.agg #[.int .i32 0, .bool false]), 2, 8) := by kernel_rfl
theorem laid_rowL (w : World) (t : TypeId) (L : List Value) : ∀ j v, L[j]? = some v → (w.alloc (.cells L.toArray t)).cell? ((⟨w.heap.size, 0, none⟩ : Addr).add j) = some v := by
  intro j v hj
  have h : ((⟨w.heap.size, 0, none⟩ : Addr).add j) = ⟨w.heap.size, j, none⟩ := by unfold Addr.add; split <;> simp_all
  rw [h, cell_of_row _ _ _ L.toArray t (0, 0) (heap_alloc_new w _)]
  simpa using hj
theorem own_below' {w w' : World} {base : Nat} {e : TypeId} {size n : Nat} {v : Value} {xs : List Value} (h : w.ownsRow base e size v n xs) (hb : Below w.heap.size w w') : w'.ownsRow base e size v n xs := by
  refine ⟨h.1, ?_⟩
  rcases h.2 with h2 | ⟨g, cap, cur, rfl, hbg, hg, hr⟩
  · exact .inl h2
  · refine .inr ⟨g, cap, cur, rfl, hbg, ?_, hr⟩
    rw [hb.block g (Array.getElem?_eq_some_iff.1 hg).1]
    exact hg

/-- "!" cut off -/
def bang (s : List UInt8) : Bool := s.head? == some 33
def cutBang (s : List UInt8) : List UInt8 := if bang s then s.drop 1 else s
theorem sCutBang_any (s : List UInt8) (w : World) (hs : s.length ≤ 4294967280) :
    Calls Tryd.prog 89 #[.string ⟨s.toArray⟩, .string ⟨#[33]⟩] w (Ret w (.tuple #[.string ⟨(cutBang s).toArray⟩, .bool (bang s)])) := by
  have hpre := fun W => Tryd.stringslite_HasPrefix ⟨s.toArray⟩ ⟨[(33 : UInt8)].toArray⟩ W
  have hb : [(33 : UInt8)].isPrefixOf s = bang s := by
    cases s with
    | nil => rfl
    | cons c r =>
      rw [Bool.eq_iff_iff, List.isPrefixOf_iff_prefix]
      unfold bang
      rw [beq_iff_eq, List.head?_cons]
      constructor
      · rintro ⟨t, e⟩; injection e with e _; rw [← e]
      · intro e; injection e with e; subst e; exact ⟨r, rfl⟩
  have hpre2 : ∀ w, Calls Tryd.prog 60 #[.string ⟨s.toArray⟩, .string ⟨#[33]⟩] w (Ret w (.bool (bang s))) := fun w => (hpre w).mono fun _ _ ⟨he, hw⟩ => ⟨by rw [← hb]; exact he, hw ▸ Below.refl _ _⟩
  clear hpre hb
  unfold cutBang
  cases hb : bang s with
  | false =>
    rw [hb] at hpre2
    have HP := Lib.hid hpre2
    clear hpre2 hb
    go_enter Tryd.func89, Tryd.ntmps89
    go_wp2_with (fail)
    refine (HP.out _).mono ?_
    rintro e w1 ⟨rfl, hw1⟩
    go_wp2_with (fail)
    go_ret2
    exact ⟨rfl, hw1⟩
  | true =>
    rw [hb] at hpre2
    have HP := Lib.hid hpre2
    have hl : 1 ≤ s.length := by cases s with | nil => cases hb | cons => simp
    have hdt : s.tail.take (s.length - 1) = s.tail := List.take_of_length_le (by simp)
    clear hpre2 hb
    go_enter Tryd.func89, Tryd.ntmps89
    go_wp2_with (fail)
    refine (HP.out _).mono ?_
    rintro e w1 ⟨rfl, hw1⟩
    go_wp2_with (fail)
    go_ret2
    exact ⟨rfl, hw1⟩
theorem CutBang_any (s : List UInt8) (w : World) (hs : s.length ≤ 4294967280) :
    Calls Tryd.prog 80 #[.string ⟨s.toArray⟩, .string ⟨#[33]⟩] w (Ret w (.tuple #[.string ⟨(cutBang s).toArray⟩, .bool (bang s)])) := by
  have HP := Lib.hid (sCutBang_any s w hs)
  go_enter Tryd.func80, Tryd.ntmps80
  go_wp2_with (fail)
  refine HP.out.mono ?_
  rintro e w1 ⟨rfl, hw1⟩
  go_wp2_with (fail)
  go_ret2
  exact ⟨rfl, hw1⟩

theorem holdsP_cut {s t : List UInt8} (hv : Lib.validD s = true) (ht : IsRune t) : holdsP s t = if holdN (lits (cutBang s)) (valR t) then !bang s else bang s := by
  rw [holdsP_num hv ht]
  unfold cutBang
  have hb : bang s = true ↔ s.head? = some 33 := by unfold bang; simp
  by_cases h : s.head? = some 33
  · rw [if_pos h, hb.2 h, if_pos rfl]
    cases holdN (lits (s.drop 1)) (valR t) <;> rfl
  · have hb' : bang s = false := by rw [← Bool.not_eq_true]; exact fun c => h (hb.1 c)
    rw [if_neg h, hb']
    have e : (if false = true then s.drop 1 else s) = s := if_neg (by decide)
    rw [e]
    cases holdN (lits s) (valR t) <;> rfl
theorem cutBang_valid {s : List UInt8} (hv : Lib.validD s = true) : Lib.validD (cutBang s) = true ∧ (cutBang s).length ≤ s.length := by
  unfold cutBang bang
  cases s with
  | nil => exact ⟨hv, Nat.le_refl _⟩
  | cons c r =>
    by_cases h : c = 33
    · subst h; exact ⟨bang_valid hv, by simp⟩
    · have : ((c :: r).head? == some 33) = false := by simp [h]
      rw [this]; exact ⟨hv, Nat.le_refl _⟩

def sliceLen : Value → Nat
  | .slice _ n _ => n
  | _ => 0

set_option maxHeartbeats 4000000 in
set_option maxRecDepth 100000 in
theorem holds_any (s t : List UInt8) (w : World) (hv : Lib.validD s = true) (ht : IsRune t) (hs : s.length ≤ 65536) :
    Calls Tryd.prog 62 #[.string ⟨s.toArray⟩, .int .i32 (valR t : Nat)] w (Ret w (.bool (holdsP s t))) := by
  obtain ⟨i0, hi, hz0, hz1, hz2⟩ := info_parts info_lit
  rw [holdsP_cut hv ht]
  have hcut := CutBang_any s w (by omega)
  obtain ⟨hv2, hl2⟩ := cutBang_valid hv
  have hvr := valR_le t
  generalize valR t = r at *
  generalize bang s = nt at *
  generalize cutBang s = l at *
  have hll : l.length ≤ 65536 := by omega
  obtain ⟨res, hres⟩ : ∃ b, b = (if holdN (lits l) r then !nt else nt) := ⟨_, rfl⟩
  rw [← hres]
  have HRES := Lib.hid hres
  clear hres
  have hsz : (ByteArray.mk l.toArray).size = l.length := by simp [ByteArray.size]
  have HC := Lib.hid hcut
  have HV := Lib.hid hv2
  have HI := Lib.hid hi
  clear hcut hv2 hv ht hl2 hs hi
  go_enter Tryd.func62, Tryd.ntmps62
  go_wp2_with (fail)
  refine HC.out.mono ?_
  rintro e w1 ⟨rfl, hw1⟩
  have HB1 := Lib.hid hw1
  clear hw1
  go_wp2_with (fail)
  go_loopw [6, 7] (fun t6 t7 W => ∃ (pos : Nat) (e : Bool) (acc : List (Nat × Bool)), pos ≤ l.length ∧ t7 = .bool e ∧ acc.length ≤ pos ∧ Hid (W.ownsRow (w1.heap.size + 1) 109 2 t6 acc.length (rowsE litV acc)) ∧ W.heap[w1.heap.size]? = some (.stringIter ⟨l.toArray⟩ pos) ∧ Hid (acc ++ numL (litsR e (runesP (l.drop pos))) = lits l) ∧ Hid (Lib.validD (l.drop pos) = true) ∧ Hid (Below w.heap.size w W)) (fun _ _ W => l.length - W.iterPos w1.heap.size)
  case atStart => exact ⟨0, false, [], by omega, rfl, by simp, Lib.hid (World.ownsRow_nil _ _ _ _), by simpa using World.iter_heap w1 ⟨l.toArray⟩ 0, Lib.hid rfl, HV, Lib.hid (HB1.out.alloc HB1.out.size _)⟩
  case round =>
    obtain ⟨pos, e, acc, hp, rfl, hal, HO, hit, HE, HVP, HB⟩ := hrel
    have hlt := (Array.getElem?_eq_some_iff.1 hit).1
    by_cases hlp : pos < l.length
    · have hne : l.drop pos ≠ [] := by intro e; have := congrArg List.length e; simp at this; omega
      have hd := dec_at l pos
      rw [dec_valid hne HVP.out] at hd
      obtain ⟨hw1, hvn⟩ := valid_next hne HVP.out
      rw [List.drop_drop] at hvn
      have hwl := runeW_le' hne
      rw [List.length_drop] at hwl
      have hls := lits_step hne HVP.out HE.out
      rw [List.drop_drop] at hls
      have hnx : ∀ ty, (Instr.next (.pointer (some ⟨w1.heap.size, 0, none⟩)) true ty).run Tryd.prog wr = _ := fun ty => Lib.run_next_any_at wr w1.heap.size ⟨l.toArray⟩ pos ty hit (by rw [hsz]; exact hlp)
      rw [hd] at hnx
      have hvv := valR_le (runeT (l.drop pos))
      generalize valR (runeT (l.drop pos)) = v at *
      generalize runeW (l.drop pos) = k at *
      have HLS := Lib.hid hls
      have hit2 := Lib.iterAt_heap wr w1.heap.size ⟨l.toArray⟩ pos (pos + k) hit
      have HB2 := Lib.hid (Lib.below_iterAt HB.out (k := w1.heap.size) HB1.out.size ⟨l.toArray⟩ (pos + k))
      have HO2 := Lib.hid (ownsRow_iterAt HO.out (k := w1.heap.size) (by omega) ⟨l.toArray⟩ (pos + k))
      have HIT := Lib.hid (iterPos_of hit)
      have HVN := Lib.hid hvn
      have HNE := Lib.hid hne
      have hi0 : (0 : Int) ≤ pos := by omega
      clear hls hd hvn hne hit HO HB HVP HE
      generalize wr.iterAt w1.heap.size ⟨l.toArray⟩ (pos + k) = W2 at *
      by_cases h92 : v = 92 ∧ e = false
      · obtain ⟨rfl, rfl⟩ := h92
        have HZ := Lib.hid (HLS.out.1 ⟨rfl, rfl⟩)
        clear HLS
        go_wp2_with (fail)
        go_roundw
        case rel => exact ⟨pos + k, true, acc, by omega, rfl, by omega, HO2, hit2, HZ, HVN, HB2⟩
        case measure => rw [iterPos_of hit2, HIT.out]; omega
      · have HZ := Lib.hid (HLS.out.2 h92)
        have htest : ∃ b, ((v : Int) == 92) = b ∧ (b = true → e = true) := ⟨_, rfl, fun q => by
          cases e with
          | true => rfl
          | false => exact absurd ⟨by simp at q; omega, rfl⟩ h92⟩
        obtain ⟨b, hb, hbe⟩ := htest
        have HST : ∀ (v1 : Value) (w5 : World), w5.ownsRow (w1.heap.size + 1) 109 2 v1 (acc.length + 1) (rowsE litV acc ++ litV (v, e)) → w5.ownsRow (w1.heap.size + 1) 109 2 v1 (acc ++ [(v, e)]).length (rowsE litV (acc ++ [(v, e)])) := fun v1 w5 h => by rw [rowsE_append, rowsE_one, List.length_append]; exact h
        have HSTT := Lib.hid HST
        clear HLS h92 HST
        cases b with
        | true =>
          obtain rfl := hbe rfl
          clear hbe
          go_wp2_with (at_builtin; refine wpList_append_own _ rfl _ _ 107 rfl (w1.heap.size + 1) 109 i0 _ 2 8 Tryd.underlying107 HI.out hz0 hz1 hz2 rfl (by decide) _ _ _ rfl (HO2.out.alloc _) ⟨W2.heap.size, 0, none⟩ 1 1 (litV (v, true)) rfl rfl (laid_rowL _ _ _) (litV_oneCell _) ?c3 ?c4 ?c5 ?_)
          case c3 => unfold maxLen; omega
          case c4 => omega
          case c5 => have := (Array.getElem?_eq_some_iff.1 hit2).1; simp; omega
          intro v1 w5 hown5 hg5 _
          have hltB := (Array.getElem?_eq_some_iff.1 hit2).1
          have hb5 : Below w.heap.size w w5 := (HB2.out.alloc HB2.out.size _).grown hg5 (by have := HB2.out.size; simp; omega) (fun k hk => by have := (HO2.out.lt k hk).1; have := HB1.out.size; omega)
          have hit5 : w5.heap[w1.heap.size]? = some (.stringIter ⟨l.toArray⟩ (pos + k)) := by
            rw [hg5.block w1.heap.size (by simp; omega) (fun e => by have := (HO2.out.lt _ e.symm).1; omega)]
            rw [heap_alloc_old _ _ hltB]; exact hit2
          have HO5 := Lib.hid (HSTT.out _ _ hown5)
          have HB5 := Lib.hid hb5
          clear hown5 hg5 hb5 HO2 HB2
          go_wp2_with (fail)
          go_roundw
          case rel => exact ⟨pos + k, false, acc ++ [(v, true)], by omega, rfl, by simp; omega, HO5, hit5, HZ, HVN, HB5⟩
          case measure => rw [iterPos_of hit5, HIT.out]; omega
        | false =>
          clear hbe
          go_wp2_with (at_builtin; refine wpList_append_own _ rfl _ _ 107 rfl (w1.heap.size + 1) 109 i0 _ 2 8 Tryd.underlying107 HI.out hz0 hz1 hz2 rfl (by decide) _ _ _ rfl (HO2.out.alloc _) ⟨W2.heap.size, 0, none⟩ 1 1 (litV (v, e)) rfl rfl (laid_rowL _ _ _) (litV_oneCell _) ?d3 ?d4 ?d5 ?_)
          case d3 => unfold maxLen; omega
          case d4 => omega
          case d5 => have := (Array.getElem?_eq_some_iff.1 hit2).1; simp; omega
          intro v1 w5 hown5 hg5 _
          have hltB := (Array.getElem?_eq_some_iff.1 hit2).1
          have hb5 : Below w.heap.size w w5 := (HB2.out.alloc HB2.out.size _).grown hg5 (by have := HB2.out.size; simp; omega) (fun k hk => by have := (HO2.out.lt k hk).1; have := HB1.out.size; omega)
          have hit5 : w5.heap[w1.heap.size]? = some (.stringIter ⟨l.toArray⟩ (pos + k)) := by
            rw [hg5.block w1.heap.size (by simp; omega) (fun e => by have := (HO2.out.lt _ e.symm).1; omega)]
            rw [heap_alloc_old _ _ hltB]; exact hit2
          have HO5 := Lib.hid (HSTT.out _ _ hown5)
          have HB5 := Lib.hid hb5
          clear hown5 hg5 hb5 HO2 HB2
          go_wp2_with (fail)
          go_roundw
          case rel => exact ⟨pos + k, false, acc ++ [(v, e)], by omega, rfl, by simp; omega, HO5, hit5, HZ, HVN, HB5⟩
          case measure => rw [iterPos_of hit5, HIT.out]; omega
    · have hnx : ∀ ty, (Instr.next (.pointer (some ⟨w1.heap.size, 0, none⟩)) true ty).run Tryd.prog wr = _ := fun ty => Lib.run_next_end_at wr w1.heap.size ⟨l.toArray⟩ pos ty hit (by rw [hsz]; exact hlp)
      have hL : acc = lits l := by
        have := HE.out
        rw [List.drop_eq_nil_of_le (by omega), lits_end] at this
        exact this
      rw [hL] at HO hal
      clear hL HE HVP
      generalize lits l = L at *
      have hLl : L.length ≤ 65536 := by omega
      obtain ⟨A, c, rfl, hc1, hc2, hrd⟩ := IsSlice.of_own HO.out
      obtain ⟨g, hg⟩ : ∃ g, 0 < L.length → A = some ⟨g, 0, none⟩ := by
        by_cases q : 0 < L.length
        · obtain ⟨g, c', e, _⟩ := rowsE_some HO.out q
          injection e with e1
          exact ⟨g, fun _ => e1⟩
        · exact ⟨0, fun h => absurd h q⟩
      have hcell : ∀ o (h : o < L.length), wr.cell? ⟨g, o * 2, none⟩ = some (.int .i32 (L[o].1 : Nat)) ∧ wr.cell? ⟨g, o * 2 + 1, none⟩ = some (.bool L[o].2) := fun o h => by
        have hO := HO.out
        rw [hg (by omega)] at hO
        exact ⟨rowsE_cell (i := 0) litV_length hO h (by omega), rowsE_cell (i := 1) litV_length hO h (by omega)⟩
      have HCE := Lib.hid hcell
      clear hcell HO hrd hal hit HC HV HI hp hlp hlt hll hsz
      go_wp2_with (fail)
      clear hnx
      go_loopw [6] (fun t6 W => ∃ (o m c' : Nat) (A' : Option Addr), o + m = L.length ∧ m ≤ c' ∧ c' ≤ 9223372036854775807 ∧ t6 = .slice A' m c' ∧ (0 < m → A' = some ⟨g, o * 2, none⟩) ∧ Hid (holdN L r = holdN (L.drop o) r) ∧ W = wr) (fun t6 _ => sliceLen t6)
      case atStart => exact ⟨0, L.length, c, A, by omega, hc1, hc2, rfl, by simpa using hg, Lib.hid (by rw [List.drop_zero]), rfl⟩
      case round =>
        obtain ⟨o, m, c', A', hom, hmc, hc63, rfl, hA, HE, rfl⟩ := hrel
        by_cases hm : 0 < m
        · obtain rfl := hA hm
          obtain ⟨k0, k1⟩ := HCE.out o (by omega)
          have hone := holdN_one_at (L := L) (r := r) (o := o) (by omega)
          by_cases hd : ∃ h : o + 2 < L.length, L[o + 1] = (45, false)
          · obtain ⟨h2, hd⟩ := hd
            obtain ⟨k2, k3⟩ := HCE.out (o + 1) (by omega)
            obtain ⟨k4, k5⟩ := HCE.out (o + 2) (by omega)
            have hds := holdN_dash_at (L := L) (r := r) (o := o) h2 hd
            rw [hd] at k2 k3
            have hm2 : (2 : Int) < m := by omega
            rw [show (o + 1) * 2 = o * 2 + 2 by omega] at k2 k3
            rw [show (o + 2) * 2 = o * 2 + 4 by omega] at k4 k5
            generalize L[o].1 = x at *
            generalize L[o + 2].1 = z at *
            clear hone hd
            have k2' : wr.cell? ⟨g, o * 2 + 2, none⟩ = some (.int .i32 45) := by simpa using k2
            have k3' : wr.cell? ⟨g, o * 2 + 2 + 1, none⟩ = some (.bool false) := by simpa using k3
            clear k2 k3 hA
            by_cases q1 : x ≤ r
            · have q1' : (x : Int) ≤ r := by omega
              by_cases q2 : r ≤ z
              · have q2' : (r : Int) ≤ z := by omega
                have HR2 := Lib.hid (show res = !nt by rw [HRES.out, HE.out, hds, decide_eq_true q1, decide_eq_true q2]; rfl)
                clear hds q1 q2
                go_wp2_with (fail)
                go_ret
                exact ⟨by rw [HR2.out]; rfl, HB.out⟩
              · have q2' : (z : Int) < r := by omega
                have HE2 := Lib.hid (show holdN L r = holdN (L.drop (o + 3)) r by rw [HE.out, hds, decide_eq_false q2, Bool.and_false, Bool.false_or])
                clear hds q1 q2
                go_wp2_with (fail)
                go_roundw
                case rel => exact ⟨o + 3, m - 3, c' - 3, _, by omega, by omega, by omega, rfl, fun q => by rw [if_neg (by omega), show (o + 3) * 2 = o * 2 + 6 by omega], HE2, by first | trivial | rfl⟩
                case measure => simp [sliceLen]; omega
            · have q1' : (r : Int) < x := by omega
              have HE2 := Lib.hid (show holdN L r = holdN (L.drop (o + 3)) r by rw [HE.out, hds, decide_eq_false q1, Bool.false_and, Bool.false_or])
              clear hds q1
              go_wp2_with (fail)
              go_roundw
              case rel => exact ⟨o + 3, m - 3, c' - 3, _, by omega, by omega, by omega, rfl, fun q => by rw [if_neg (by omega), show (o + 3) * 2 = o * 2 + 6 by omega], HE2, by first | trivial | rfl⟩
              case measure => simp [sliceLen]; omega
          · have hone' := hone (fun h e => hd ⟨h, e⟩)
            have hnd : ∀ h : o + 2 < L.length, ∃ (d : Nat) (de : Bool), wr.cell? ⟨g, o * 2 + 2, none⟩ = some (.int .i32 d) ∧ wr.cell? ⟨g, o * 2 + 2 + 1, none⟩ = some (.bool de) ∧ (((d : Int) == 45) = false ∨ (d = 45 ∧ de = true)) := fun h => by
              obtain ⟨k2, k3⟩ := HCE.out (o + 1) (by omega)
              rw [show (o + 1) * 2 = o * 2 + 2 by omega] at k2 k3
              refine ⟨_, _, k2, k3, ?_⟩
              by_cases e1 : L[o + 1].1 = 45
              · refine .inr ⟨e1, ?_⟩
                rw [← Bool.not_eq_false]
                exact fun e2 => hd ⟨h, Prod.ext e1 e2⟩
              · exact .inl (by rw [beq_eq_false_iff_ne]; omega)
            clear hone hd hA
            generalize L[o].1 = x at *
            by_cases q1 : x = r
            · have q1' : ((x : Int) == (r : Int)) = true := by simp; omega
              have HR2 := Lib.hid (show res = !nt by rw [HRES.out, HE.out, hone', q1]; simp)
              clear hone' q1
              by_cases hm2 : 2 < m
              · obtain ⟨d, de, k2, k3, k4⟩ := hnd (by omega)
                have hm2' : (2 : Int) < m := by omega
                clear hnd
                rcases k4 with k4 | ⟨rfl, rfl⟩
                · go_wp2_with (fail)
                  go_ret
                  exact ⟨by rw [HR2.out]; rfl, HB.out⟩
                · go_wp2_with (fail)
                  go_ret
                  exact ⟨by rw [HR2.out]; rfl, HB.out⟩
              · have hm2' : decide ((2 : Int) < m) = false := by simp; omega
                clear hnd hm2
                go_wp2_with (fail)
                go_ret
                exact ⟨by rw [HR2.out]; rfl, HB.out⟩
            · have q1' : ((x : Int) == (r : Int)) = false := by simp; omega
              have HE2 := Lib.hid (show holdN L r = holdN (L.drop (o + 1)) r by rw [HE.out, hone', beq_eq_false_iff_ne.2 q1, Bool.false_or])
              clear hone' q1
              by_cases hm2 : 2 < m
              · obtain ⟨d, de, k2, k3, k4⟩ := hnd (by omega)
                have hm2' : (2 : Int) < m := by omega
                clear hnd
                rcases k4 with k4 | ⟨rfl, rfl⟩
                · go_wp2_with (fail)
                  go_roundw
                  case rel => exact ⟨o + 1, m - 1, c' - 1, _, by omega, by omega, by omega, rfl, fun q => by (try rw [if_neg (by omega)]); rw [show (o + 1) * 2 = o * 2 + 2 by omega], HE2, by first | trivial | rfl⟩
                  case measure => simp [sliceLen]; omega
                · go_wp2_with (fail)
                  go_roundw
                  case rel => exact ⟨o + 1, m - 1, c' - 1, _, by omega, by omega, by omega, rfl, fun q => by (try rw [if_neg (by omega)]); rw [show (o + 1) * 2 = o * 2 + 2 by omega], HE2, by first | trivial | rfl⟩
                  case measure => simp [sliceLen]; omega
              · have hm2' : decide ((2 : Int) < m) = false := by simp; omega
                clear hnd hm2
                go_wp2_with (fail)
                go_roundw
                case rel => exact ⟨o + 1, m - 1, c' - 1, _, by omega, by omega, by omega, rfl, fun q => by (try rw [if_neg (by omega)]); rw [show (o + 1) * 2 = o * 2 + 2 by omega], HE2, by first | trivial | rfl⟩
                case measure => simp [sliceLen]; omega
        · have HR2 := Lib.hid (show res = nt by rw [HRES.out, HE.out, holdN_end (by omega)]; rfl)
          obtain rfl : m = 0 := by omega
          go_wp2_with (fail)
          go_ret
          exact ⟨by rw [HR2.out]; rfl, HB.out⟩
end Go.Proofs.YtjhjepkmcbjgoaaDoor
end
