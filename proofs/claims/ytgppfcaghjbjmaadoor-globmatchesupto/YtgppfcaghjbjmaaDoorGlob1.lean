/- glob.invalid, glob.set. -/
import Derived.Test.YtgppfcaghjbjmaaDoorValid
import Derived.Test.YtgppfcaghjbjmaaDoorPlainGlob
import Derived.IntWalk
import Derived.Lib.OthersKept
import Derived.WalkSmall
import Derived.BigCall
namespace Go.Proofs.YtgppfcaghjbjmaaDoor
open Go.RowKit Plain

theorem decodeGo_L {l : List UInt8} (hne : l ≠ []) : Lib.decodeGo ⟨l.toArray⟩ = Lib.decodeL l := by
  unfold Lib.decodeGo
  rw [if_neg (by simpa [ByteArray.size] using hne)]
  rfl
theorem Decode_any (l : List UInt8) (hne : l ≠ []) (w : World) (hT : Tabs w) :
    Calls Tryd.prog 44 #[.string ⟨l.toArray⟩] w (Ret w (.tuple #[.int .i32 (Lib.decodeL l).1, .int .i64 (Lib.decodeL l).2])) := by
  have h := Tryd.utf8_DecodeRuneInString ⟨l.toArray⟩ w hT
  rw [decodeGo_L hne] at h
  exact h.mono fun _ _ ⟨he, hw⟩ => ⟨he, hw⟩

set_option maxHeartbeats 1000000 in
theorem invalid_any (s : List UInt8) (w : World) (hT : Tabs w) (hs : s.length ≤ 4294967280) :
    Calls Tryd.prog 31 #[.string ⟨s.toArray⟩] w (Ret w (.int .i64 (badI (badP s)))) := by
  have HD := Lib.hid (fun (l : List UInt8) (hne : l ≠ []) W (hb : Below w.heap.size w W) => Decode_any l hne W (Utf8Tabs_below hT hb))
  clear hT
  have hsz : (ByteArray.mk s.toArray).size = s.length := by simp [ByteArray.size]
  go_enter Tryd.func31, Tryd.ntmps31
  go_wp2_with (fail)
  go_loopw [] (fun wr => ∃ pos : Nat, pos ≤ s.length ∧ wr.heap[w.heap.size]? = some (.stringIter ⟨s.toArray⟩ pos) ∧ Hid (badP s = badAt pos (s.drop pos)) ∧ Hid (Below w.heap.size w wr)) (fun wr => s.length - wr.iterPos w.heap.size)
  case atStart => exact ⟨0, by omega, by simpa using World.iter_heap w ⟨s.toArray⟩ 0, Lib.hid (by rw [List.drop_zero]; rfl), Lib.hid ((Below.refl _ w).alloc (Nat.le_refl _) _)⟩
  case round =>
    obtain ⟨pos, hp, hit, HE, HB⟩ := hrel
    have hlt := (Array.getElem?_eq_some_iff.1 hit).1
    by_cases hlp : pos < s.length
    · have hne : s.drop pos ≠ [] := by intro e; have := congrArg List.length e; simp at this; omega
      have hst := badAt_step (k := pos) hne
      have hwle := runeW_le s pos hlp
      have hd := dec_at s pos
      have hdd := HD.out _ hne
      have hw1 : 1 ≤ (Lib.decodeL (s.drop pos)).2 := Lib.decodeL_width _
      have hwl : (Lib.decodeL (s.drop pos)).2 ≤ s.length - pos := by have := Lib.decodeL_le _ hne; simpa using this
      have hr : runeW (s.drop pos) = if (Lib.decodeL (s.drop pos)).1 = 65533 ∧ (Lib.decodeL (s.drop pos)).2 = 1 then 0 else (Lib.decodeL (s.drop pos)).2 := rfl
      have hnx : ∀ ty, (Instr.next (.pointer (some ⟨w.heap.size, 0, none⟩)) true ty).run Tryd.prog wr = _ := fun ty => Lib.run_next_any_at wr w.heap.size ⟨s.toArray⟩ pos ty hit (by rw [hsz]; exact hlp)
      rw [hd] at hnx
      generalize (Lib.decodeL (s.drop pos)).1 = v at *
      generalize (Lib.decodeL (s.drop pos)).2 = k at *
      have HST := Lib.hid hst
      have HR := Lib.hid hr
      have hit2 := Lib.iterAt_heap wr w.heap.size ⟨s.toArray⟩ pos (pos + k) hit
      have hb2 := Lib.below_iterAt HB.out (k := w.heap.size) (Nat.le_refl _) ⟨s.toArray⟩ (pos + k)
      have HB2 := Lib.hid hb2
      have HDD := Lib.hid hdd
      have HIT := Lib.hid (iterPos_of hit)
      have hi0 : (0 : Int) ≤ pos := by omega
      clear hst hr hb2 hdd hd HD
      by_cases h1 : v = 65533
      · have hv : ((v : Int) == 65533) = true := by simp; omega
        by_cases h2 : k = 1
        · have hk : ((k : Int) == 1) = true := by simp; omega
          have HZ := Lib.hid (show runeW (s.drop pos) = 0 by rw [HR.out, if_pos ⟨h1, h2⟩])
          clear h1 h2
          generalize wr.iterAt w.heap.size ⟨s.toArray⟩ (pos + k) = W2 at *
          go_wp2_with (fail)
          refine (HDD.out _ HB2.out).mono ?_
          rintro e w1 ⟨rfl, hw1⟩
          go_wp2_with (fail)
          go_ret
          exact ⟨by rw [HE.out, HST.out, if_pos HZ.out]; rfl, HB2.out.trans (hw1.mono HB2.out.size)⟩
        · have hk : ((k : Int) == 1) = false := by simp; omega
          have HZ := Lib.hid (show runeW (s.drop pos) = k by rw [HR.out, if_neg (fun c => h2 c.2)])
          clear h1 h2
          generalize hW2 : wr.iterAt w.heap.size ⟨s.toArray⟩ (pos + k) = W2 at *
          clear hW2
          go_wp2_with (fail)
          refine (HDD.out _ HB2.out).mono ?_
          rintro e w1 ⟨rfl, hw1⟩
          have hb3 := HB2.out.trans (hw1.mono HB2.out.size)
          have hit3 : w1.heap[w.heap.size]? = some (.stringIter ⟨s.toArray⟩ (pos + k)) := (hw1.block _ (Array.getElem?_eq_some_iff.1 hit2).1).trans hit2
          have HB3 := Lib.hid hb3
          clear hw1 hb3
          go_wp2_with (fail)
          go_roundw
          case rel => exact ⟨pos + k, by omega, hit3, Lib.hid (by rw [HE.out, HST.out, HZ.out, if_neg (by omega), List.drop_drop]), HB3⟩
          case measure => rw [iterPos_of hit3, HIT.out]; omega
      · have hv : ((v : Int) == 65533) = false := by simp; omega
        have HZ := Lib.hid (show runeW (s.drop pos) = k by rw [HR.out, if_neg (fun c => h1 c.1)])
        clear h1
        generalize hW2 : wr.iterAt w.heap.size ⟨s.toArray⟩ (pos + k) = W2 at *
        clear hW2
        go_wp2_with (fail)
        go_roundw
        case rel => exact ⟨pos + k, by omega, hit2, Lib.hid (by rw [HE.out, HST.out, HZ.out, if_neg (by omega), List.drop_drop]), HB2⟩
        case measure => rw [iterPos_of hit2, HIT.out]; omega
    · have hnx : ∀ ty, (Instr.next (.pointer (some ⟨w.heap.size, 0, none⟩)) true ty).run Tryd.prog wr = _ := fun ty => Lib.run_next_end_at wr w.heap.size ⟨s.toArray⟩ pos ty hit (by rw [hsz]; exact hlp)
      have HZ := Lib.hid (show badP s = none by rw [HE.out, List.drop_eq_nil_of_le (by omega)]; rfl)
      go_wp2_with (fail)
      go_ret
      exact ⟨by rw [HZ.out]; rfl, HB.out⟩

/-- What set gives. -/
def SetOut (s : List UInt8) (w : World) (e : Ending) (w' : World) : Prop :=
  (∀ k, closeP s = some k → e = .returned (.tuple #[.string ⟨((s.take k).drop 1).toArray⟩, .string ⟨(s.drop (k + 1)).toArray⟩, .bool true])) ∧ (closeP s = none → ∃ a b : ByteArray, e = .returned (.tuple #[.string a, .string b, .bool false])) ∧ Below w.heap.size w w'

def strLenG : Value → Nat
  | .string x => x.size
  | _ => 0

theorem u8_ne {c : UInt8} {n : Nat} (hn : n < 256) (h : c ≠ UInt8.ofNat n) : ((c.toNat : Int) == (n : Int)) = false := by
  rw [beq_eq_false_iff_ne]
  intro e
  apply h
  apply UInt8.toNat.inj
  have : c.toNat = n := by omega
  rw [this]; simp; omega

set_option maxHeartbeats 2000000 in
set_option maxRecDepth 10000 in
theorem set_any (r : List UInt8) (w : World) (hs : (91 :: r).length ≤ 4294967280) :
    Calls Tryd.prog 32 #[.string ⟨(91 :: r : List UInt8).toArray⟩] w (SetOut (91 :: r) w) := by
  have hpre := Tryd.strings_HasPrefix ⟨r.toArray⟩ ⟨[(33 : UInt8)].toArray⟩
  obtain ⟨f, hf, hf12, hfl⟩ : ∃ f, setFrom (91 :: r) = f ∧ ((f = 1 ∧ [(33 : UInt8)].isPrefixOf r = false) ∨ (f = 2 ∧ [(33 : UInt8)].isPrefixOf r = true)) ∧ f ≤ (91 :: r).length := by
    cases r with
    | nil => exact ⟨1, rfl, .inl ⟨rfl, rfl⟩, by simp⟩
    | cons c r =>
      by_cases h : c = 33
      · subst h; exact ⟨2, setFrom_2 rfl, .inr ⟨rfl, by simp⟩, by simp⟩
      · have hpf : [(33 : UInt8)].isPrefixOf (c :: r) = false := by
          rw [← Bool.not_eq_true, List.isPrefixOf_iff_prefix]
          intro e; obtain ⟨t, e⟩ := e; injection e with e _; exact h e.symm
        exact ⟨1, setFrom_1 (by simpa using h), .inl ⟨rfl, hpf⟩, by simp⟩
  have hd1 : (91 :: r : List UInt8).drop 1 = r := rfl
  have hl1 : 1 ≤ (91 :: r : List UInt8).length := by simp
  have hcl := closeA_closeP (91 :: r)
  rw [hf] at hcl
  generalize hss : (91 :: r : List UInt8) = s at *
  have hpre2 : ∀ w, Calls Tryd.prog 43 #[.string ⟨r.toArray⟩, .string ⟨#[33]⟩] w (Ret w (.bool ([(33 : UInt8)].isPrefixOf r))) := fun w => (hpre w).mono fun _ _ ⟨he, hw⟩ => ⟨he, hw ▸ Below.refl _ _⟩
  have HCL := Lib.hid hcl
  have HF := Lib.hid hf
  have HSS := Lib.hid hss
  have hdt : r.take (s.length - 1) = r := by have := HSS.out; subst this; simp
  clear hpre hcl hss
  rcases hf12 with ⟨rfl, hb⟩ | ⟨rfl, hb⟩
  · rw [hb] at hpre2
    have HP := Lib.hid hpre2
    clear hpre2 hb hf
    have HFF := Lib.hid (show setFrom s = 1 from HF.out)
    go_enter Tryd.func32, Tryd.ntmps32
    go_wp2_with (fail)
    refine (HP.out _).mono ?_
    rintro e w1 ⟨rfl, hw1⟩
    have HB1 := Lib.hid hw1
    clear hw1 hdt hd1
    go_wp2_with (fail)
    go_loopw [6] (fun t6 W => ∃ i : Nat, i ≤ s.length ∧ t6 = .int .i64 i ∧ 1 ≤ i ∧ Hid (closeP s = closeA s i) ∧ Hid (Below w.heap.size w W)) (fun t6 _ => s.length - (intOf t6).toNat)
    case atStart => exact ⟨1, by omega, rfl, by omega, Lib.hid (by rw [← HCL.out]), HB1⟩
    case round =>
      obtain ⟨i, hi, rfl, hfi, HC, HB⟩ := hrel
      have hi0 : (0 : Int) ≤ i := by omega
      by_cases hlt : i < s.length
      · have hst := closeA_step hlt
        rw [HFF.out] at hst
        by_cases h92 : s[i] = 92
        · rw [if_neg (by rw [h92]; decide), if_pos h92] at hst
          have e1 : IntKind.i64.wrap ((i : Int) + 1) = (i : Int) + 1 := IntWalk.i64_in _ (by omega)
          have hx : ((i : Int) + 1).toNat = i + 1 := by omega
          by_cases hl1 : i + 1 < s.length
          · rw [dif_pos hl1] at hst
            have hq : ((i : Int) + 1 == (s.length : Int)) = false := by simp; omega
            have hq1 : (i : Int) + 1 < (s.length : Int) := by omega
            have hq0 : (0 : Int) ≤ (i : Int) + 1 := by omega
            by_cases h47 : s[i + 1] = 47
            · rw [if_pos h47] at hst
              have HN := Lib.hid (HC.out.trans hst)
              clear hst
              go_wp2_with (fail)
              go_ret3
              exact ⟨fun k hk => by (rw [HN.out] at hk; cases hk), fun _ => ⟨_, _, rfl⟩, HB.out⟩
            · rw [if_neg h47] at hst
              have HN := Lib.hid (HC.out.trans hst)
              clear hst
              generalize hd : s[i + 1] = d at *
              have h47' := u8_ne (n := 47) (by omega) h47
              clear h47
              go_wp2_with (fail)
              go_roundw
              case rel => exact ⟨i + 2, by omega, by go_num, by omega, HN, HB⟩
              case measure => simp [intOf]; omega
          · rw [dif_neg hl1] at hst
            have hq : ((i : Int) + 1 == (s.length : Int)) = true := by simp; omega
            have HN := Lib.hid (HC.out.trans hst)
            clear hst
            go_wp2_with (fail)
            go_ret3
            exact ⟨fun k hk => by (rw [HN.out] at hk; cases hk), fun _ => ⟨_, _, rfl⟩, HB.out⟩
        · rw [if_neg h92] at hst
          by_cases h47 : s[i] = 47
          · rw [if_pos h47] at hst
            have HN := Lib.hid (HC.out.trans hst)
            clear hst h92
            go_wp2_with (fail)
            go_ret3
            exact ⟨fun k hk => by (rw [HN.out] at hk; cases hk), fun _ => ⟨_, _, rfl⟩, HB.out⟩
          · rw [if_neg h47] at hst
            by_cases h93 : s[i] = 93
            · rw [if_pos h93] at hst
              by_cases hif : i = 1
              · rw [if_pos hif] at hst
                have HN := Lib.hid (HC.out.trans hst)
                have hq : decide ((1 : Int) < (i : Int)) = false := by simp; omega
                have HIF := Lib.hid hif
                clear hif
                clear hst h92 h47
                have e1 : IntKind.i64.wrap ((i : Int) + 1) = (i : Int) + 1 := IntWalk.i64_in _ (by omega)
                have hx : ((i : Int) + 1).toNat = i + 1 := by omega
                have hq1 : (i : Int) + 1 ≤ (s.length : Int) := by omega
                have hq0 : (0 : Int) ≤ (i : Int) + 1 := by omega
                go_wp2_with (fail)
                refine wp_region_below (by kernel_rfl) (by kernel_rfl) ?_
                repeat (go_big_quiet_step (fail))
                refine wpQuiet_nil ?_
                intro W2 hW2
                go_wp2_with (fail)
                go_ret3
                exact ⟨fun k hk => by (rw [HN.out] at hk; cases hk), fun _ => ⟨_, _, rfl⟩, HB.out.trans (hW2.mono HB.out.size)⟩
              · rw [if_neg hif] at hst
                have HN := Lib.hid (HC.out.trans hst)
                have hq : decide ((1 : Int) < (i : Int)) = true := by simp; omega
                clear hst h92 h47
                have e1 : IntKind.i64.wrap ((i : Int) + 1) = (i : Int) + 1 := IntWalk.i64_in _ (by omega)
                have hx : ((i : Int) + 1).toNat = i + 1 := by omega
                have hq1 : (i : Int) + 1 ≤ (s.length : Int) := by omega
                have hq0 : (0 : Int) ≤ (i : Int) + 1 := by omega
                have ht1 : (s.drop (i + 1)).take (s.length - (i + 1)) = s.drop (i + 1) := List.take_of_length_le (by simp)
                have HT2 := Lib.hid (show (s.drop 1).take (i - 1) = (s.take i).drop 1 by rw [List.drop_take])
                go_wp2_with (fail)
                refine wp_region_below (by kernel_rfl) (by kernel_rfl) ?_
                repeat (go_big_quiet_step (fail))
                refine wpQuiet_nil ?_
                intro W2 hW2
                go_wp2_with (fail)
                go_ret3
                refine ⟨fun k hk => ?_, fun hk => ?_, HB.out.trans (hW2.mono HB.out.size)⟩
                · rw [HN.out] at hk
                  injection hk with hk
                  subst hk
                  rw [← HT2.out, List.drop_one]
                  rfl
                · rw [HN.out] at hk; cases hk
            · rw [if_neg h93] at hst
              have HN := Lib.hid (HC.out.trans hst)
              clear hst
              generalize hc : s[i] = c at *
              have h92' := u8_ne (n := 92) (by omega) h92
              have h47' := u8_ne (n := 47) (by omega) h47
              have h93' := u8_ne (n := 93) (by omega) h93
              clear h92 h47 h93
              go_wp2_with (fail)
              go_roundw
              case rel => exact ⟨i + 1, by omega, by go_num, by omega, HN, HB⟩
              case measure => simp [intOf]; omega
      · have HN := Lib.hid (HC.out.trans (closeA_end (by omega)))
        go_wp2_with (fail)
        go_ret3
        exact ⟨fun k hk => by (rw [HN.out] at hk; cases hk), fun _ => ⟨_, _, rfl⟩, HB.out⟩
  · rw [hb] at hpre2
    have HP := Lib.hid hpre2
    clear hpre2 hb hf
    have HFF := Lib.hid (show setFrom s = 2 from HF.out)
    go_enter Tryd.func32, Tryd.ntmps32
    go_wp2_with (fail)
    refine (HP.out _).mono ?_
    rintro e w1 ⟨rfl, hw1⟩
    have HB1 := Lib.hid hw1
    clear hw1 hdt hd1
    go_wp2_with (fail)
    go_loopw [6] (fun t6 W => ∃ i : Nat, i ≤ s.length ∧ t6 = .int .i64 i ∧ 2 ≤ i ∧ Hid (closeP s = closeA s i) ∧ Hid (Below w.heap.size w W)) (fun t6 _ => s.length - (intOf t6).toNat)
    case atStart => exact ⟨2, by omega, rfl, by omega, Lib.hid (by rw [← HCL.out]), HB1⟩
    case round =>
      obtain ⟨i, hi, rfl, hfi, HC, HB⟩ := hrel
      have hi0 : (0 : Int) ≤ i := by omega
      by_cases hlt : i < s.length
      · have hst := closeA_step hlt
        rw [HFF.out] at hst
        by_cases h92 : s[i] = 92
        · rw [if_neg (by rw [h92]; decide), if_pos h92] at hst
          have e1 : IntKind.i64.wrap ((i : Int) + 1) = (i : Int) + 1 := IntWalk.i64_in _ (by omega)
          have hx : ((i : Int) + 1).toNat = i + 1 := by omega
          by_cases hl1 : i + 1 < s.length
          · rw [dif_pos hl1] at hst
            have hq : ((i : Int) + 1 == (s.length : Int)) = false := by simp; omega
            have hq1 : (i : Int) + 1 < (s.length : Int) := by omega
            have hq0 : (0 : Int) ≤ (i : Int) + 1 := by omega
            by_cases h47 : s[i + 1] = 47
            · rw [if_pos h47] at hst
              have HN := Lib.hid (HC.out.trans hst)
              clear hst
              go_wp2_with (fail)
              go_ret3
              exact ⟨fun k hk => by (rw [HN.out] at hk; cases hk), fun _ => ⟨_, _, rfl⟩, HB.out⟩
            · rw [if_neg h47] at hst
              have HN := Lib.hid (HC.out.trans hst)
              clear hst
              generalize hd : s[i + 1] = d at *
              have h47' := u8_ne (n := 47) (by omega) h47
              clear h47
              go_wp2_with (fail)
              go_roundw
              case rel => exact ⟨i + 2, by omega, by go_num, by omega, HN, HB⟩
              case measure => simp [intOf]; omega
          · rw [dif_neg hl1] at hst
            have hq : ((i : Int) + 1 == (s.length : Int)) = true := by simp; omega
            have HN := Lib.hid (HC.out.trans hst)
            clear hst
            go_wp2_with (fail)
            go_ret3
            exact ⟨fun k hk => by (rw [HN.out] at hk; cases hk), fun _ => ⟨_, _, rfl⟩, HB.out⟩
        · rw [if_neg h92] at hst
          by_cases h47 : s[i] = 47
          · rw [if_pos h47] at hst
            have HN := Lib.hid (HC.out.trans hst)
            clear hst h92
            go_wp2_with (fail)
            go_ret3
            exact ⟨fun k hk => by (rw [HN.out] at hk; cases hk), fun _ => ⟨_, _, rfl⟩, HB.out⟩
          · rw [if_neg h47] at hst
            by_cases h93 : s[i] = 93
            · rw [if_pos h93] at hst
              by_cases hif : i = 2
              · rw [if_pos hif] at hst
                have HN := Lib.hid (HC.out.trans hst)
                have hq : decide ((2 : Int) < (i : Int)) = false := by simp; omega
                have HIF := Lib.hid hif
                clear hif
                clear hst h92 h47
                have e1 : IntKind.i64.wrap ((i : Int) + 1) = (i : Int) + 1 := IntWalk.i64_in _ (by omega)
                have hx : ((i : Int) + 1).toNat = i + 1 := by omega
                have hq1 : (i : Int) + 1 ≤ (s.length : Int) := by omega
                have hq0 : (0 : Int) ≤ (i : Int) + 1 := by omega
                go_wp2_with (fail)
                refine wp_region_below (by kernel_rfl) (by kernel_rfl) ?_
                repeat (go_big_quiet_step (fail))
                refine wpQuiet_nil ?_
                intro W2 hW2
                go_wp2_with (fail)
                go_ret3
                exact ⟨fun k hk => by (rw [HN.out] at hk; cases hk), fun _ => ⟨_, _, rfl⟩, HB.out.trans (hW2.mono HB.out.size)⟩
              · rw [if_neg hif] at hst
                have HN := Lib.hid (HC.out.trans hst)
                have hq : decide ((2 : Int) < (i : Int)) = true := by simp; omega
                clear hst h92 h47
                have e1 : IntKind.i64.wrap ((i : Int) + 1) = (i : Int) + 1 := IntWalk.i64_in _ (by omega)
                have hx : ((i : Int) + 1).toNat = i + 1 := by omega
                have hq1 : (i : Int) + 1 ≤ (s.length : Int) := by omega
                have hq0 : (0 : Int) ≤ (i : Int) + 1 := by omega
                have ht1 : (s.drop (i + 1)).take (s.length - (i + 1)) = s.drop (i + 1) := List.take_of_length_le (by simp)
                have HT2 := Lib.hid (show (s.drop 1).take (i - 1) = (s.take i).drop 1 by rw [List.drop_take])
                go_wp2_with (fail)
                refine wp_region_below (by kernel_rfl) (by kernel_rfl) ?_
                repeat (go_big_quiet_step (fail))
                refine wpQuiet_nil ?_
                intro W2 hW2
                go_wp2_with (fail)
                go_ret3
                refine ⟨fun k hk => ?_, fun hk => ?_, HB.out.trans (hW2.mono HB.out.size)⟩
                · rw [HN.out] at hk
                  injection hk with hk
                  subst hk
                  rw [← HT2.out, List.drop_one]
                  rfl
                · rw [HN.out] at hk; cases hk
            · rw [if_neg h93] at hst
              have HN := Lib.hid (HC.out.trans hst)
              clear hst
              generalize hc : s[i] = c at *
              have h92' := u8_ne (n := 92) (by omega) h92
              have h47' := u8_ne (n := 47) (by omega) h47
              have h93' := u8_ne (n := 93) (by omega) h93
              clear h92 h47 h93
              go_wp2_with (fail)
              go_roundw
              case rel => exact ⟨i + 1, by omega, by go_num, by omega, HN, HB⟩
              case measure => simp [intOf]; omega
      · have HN := Lib.hid (HC.out.trans (closeA_end (by omega)))
        go_wp2_with (fail)
        go_ret3
        exact ⟨fun k hk => by (rw [HN.out] at hk; cases hk), fun _ => ⟨_, _, rfl⟩, HB.out⟩
end Go.Proofs.YtgppfcaghjbjmaaDoor
