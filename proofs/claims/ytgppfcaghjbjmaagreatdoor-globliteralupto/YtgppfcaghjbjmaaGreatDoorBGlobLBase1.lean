/- Texts joined: Valid, Glob1, Glob2, WholeRows, RowsE. -/
import Derived.Test.YtgppfcaghjbjmaaGreatDoorBLitBase1
import Derived.Test.YtgppfcaghjbjmaaGreatDoorShelf
import Derived.Shelf.Unicode.ValidAny
import Derived.Lib.LaidU8T
import Derived.Test.YtgppfcaghjbjmaaGreatDoorBLitBase4
import Derived.IntWalk
import Derived.Lib.OthersKept
import Derived.WalkSmall
import Derived.BigCall
import Derived.Deep.MidRow
set_option linter.unusedSimpArgs false
set_option linter.unusedVariables false

/- The library's check of UTF-8, laid at this program. -/
section
namespace Go.Proofs.YtgppfcaghjbjmaaGreatDoor
open Go.RowKit

def lays196_ren : Go.Shelf.Ren := ⟨fun | 196 => 49 | 259 => 66 | n => n, fun | 9 => 9 | 3 => 3 | 4 => 4 | 5 => 5 | 0 => 0 | 12 => 12 | 46 => 86 | 53 => 112 | 119 => 85 | 139 => 89 | 138 => 88 | n => n, fun | 3 => 0 | 4 => 1 | n => n⟩
theorem lays196 : Go.Proofs.Lays.n196 Tryz.prog lays196_ren := {
  mixed := by kernel_rfl
  f196 := Tryz.func49.trans (congrArg some (by kernel_rfl))
  f259 := Tryz.func66.trans (congrArg some (by kernel_rfl))
  t0 := Tryz.underlying0
  a0 := Tryz.isAgg0
  z0 := Tryz.sizeOf0
  v0 := Tryz.zeroValue0
  t3 := Tryz.underlying3
  a3 := Tryz.isAgg3
  z3 := Tryz.sizeOf3
  v3 := Tryz.zeroValue3
  t4 := Tryz.underlying4
  a4 := Tryz.isAgg4
  z4 := Tryz.sizeOf4
  v4 := Tryz.zeroValue4
  t5 := Tryz.underlying5
  a5 := Tryz.isAgg5
  z5 := Tryz.sizeOf5
  v5 := Tryz.zeroValue5
  t9 := Tryz.underlying9
  a9 := Tryz.isAgg9
  z9 := Tryz.sizeOf9
  v9 := Tryz.zeroValue9
  t12 := Tryz.underlying12
  a12 := Tryz.isAgg12
  z12 := Tryz.sizeOf12
  v12 := Tryz.zeroValue12
  t46 := Tryz.underlying86
  a46 := Tryz.isAgg86
  z46 := Tryz.sizeOf86
  v46 := Tryz.zeroValue86
  t53 := Tryz.underlying112
  a53 := Tryz.isAgg112
  z53 := Tryz.sizeOf112
  v53 := Tryz.zeroValue112
  t119 := Tryz.underlying85
  a119 := Tryz.isAgg85
  z119 := Tryz.sizeOf85
  t138 := Tryz.underlying88
  a138 := Tryz.isAgg88
  z138 := Tryz.sizeOf88
  v138 := Tryz.zeroValue88
  t139 := Tryz.underlying89
  a139 := Tryz.isAgg89
  z139 := Tryz.sizeOf89
  v139 := Tryz.zeroValue89
  g3 := by kernel_rfl
  g4 := by kernel_rfl }

/-- The two tables lie where they lie. -/
def Tabs (w : World) : Prop := Lib.Utf8Tabs 0 1 w

theorem ValidString_any (l : List UInt8) (w : World) (hl : l.length ≤ 4294967296) (hT : Tabs w) :
    Calls Tryz.prog 49 #[.string ⟨l.toArray⟩] w (Ret w (.bool (Lib.validD l))) :=
  (Any.utf8_ValidString lays196 ⟨l.toArray⟩ w (by simp [ByteArray.size]; omega) hT).mono fun _ _ ⟨he, hw⟩ => ⟨he, hw⟩
end Go.Proofs.YtgppfcaghjbjmaaGreatDoor
end

/- glob.invalid, glob.set. -/
section
namespace Go.Proofs.YtgppfcaghjbjmaaGreatDoor
open Go.RowKit Plain

theorem decodeGo_L {l : List UInt8} (hne : l ≠ []) : Lib.decodeGo ⟨l.toArray⟩ = Lib.decodeL l := by
  unfold Lib.decodeGo
  rw [if_neg (by simpa [ByteArray.size] using hne)]
  rfl
theorem Decode_any (l : List UInt8) (hne : l ≠ []) (w : World) (hT : Tabs w) :
    Calls Tryz.prog 29 #[.string ⟨l.toArray⟩] w (Ret w (.tuple #[.int .i32 (Lib.decodeL l).1, .int .i64 (Lib.decodeL l).2])) := by
  have h := Tryz.utf8_DecodeRuneInString ⟨l.toArray⟩ w hT
  rw [decodeGo_L hne] at h
  exact h.mono fun _ _ ⟨he, hw⟩ => ⟨he, hw⟩

set_option maxHeartbeats 1000000 in
theorem invalid_any (s : List UInt8) (w : World) (hT : Tabs w) (hs : s.length ≤ 4294967280) :
    Calls Tryz.prog 13 #[.string ⟨s.toArray⟩] w (Ret w (.int .i64 (badI (badP s)))) := by
  have HD := Lib.hid (fun (l : List UInt8) (hne : l ≠ []) W (hb : Below w.heap.size w W) => Decode_any l hne W (Utf8Tabs_below hT hb))
  clear hT
  have hsz : (ByteArray.mk s.toArray).size = s.length := by simp [ByteArray.size]
  go_enter Tryz.func13, Tryz.ntmps13
  go_wp2_with (fail)
  go_loopw [] (fun wr => ∃ pos : Nat, pos ≤ s.length ∧ wr.heap[w.heap.size]? = some (.stringIter ⟨s.toArray⟩ pos) ∧ Hid (badP s = badAt pos (s.drop pos)) ∧ Hid (Below w.heap.size w wr)) (fun wr => s.length - wr.iterPos w.heap.size)
  case atStart => exact ⟨0, by omega, by simpa using World.iter_heap w ⟨s.toArray⟩ 0, Lib.hid (by rw [List.drop_zero]; rfl), Lib.hid ((Below.refl _ w).alloc (Nat.le_refl _) _)⟩
  case round =>
    obtain ⟨pos, hp, hit, HE, HB⟩ := hrel
    have hlt := (Array.getElem?_eq_some_iff.1 hit).1
    by_cases hlp : pos < s.length
    · have hne : s.drop pos ≠ [] := by intro e; have := congrArg List.length e; simp at this; omega
      have hst := badAt_step (k := pos) hne
      have hwle := runeW_le s pos hlp
      have hd := dec_at s pos
      have hdd := HD.out _ hne
      have hw1 : 1 ≤ (Lib.decodeL (s.drop pos)).2 := Lib.decodeL_width _
      have hwl : (Lib.decodeL (s.drop pos)).2 ≤ s.length - pos := by have := Lib.decodeL_le _ hne; simpa using this
      have hr : runeW (s.drop pos) = if (Lib.decodeL (s.drop pos)).1 = 65533 ∧ (Lib.decodeL (s.drop pos)).2 = 1 then 0 else (Lib.decodeL (s.drop pos)).2 := rfl
      have hnx : ∀ ty, (Instr.next (.pointer (some ⟨w.heap.size, 0, none⟩)) true ty).run Tryz.prog wr = _ := fun ty => Lib.run_next_any_at wr w.heap.size ⟨s.toArray⟩ pos ty hit (by rw [hsz]; exact hlp)
      rw [hd] at hnx
      generalize (Lib.decodeL (s.drop pos)).1 = v at *
      generalize (Lib.decodeL (s.drop pos)).2 = k at *
      have HST := Lib.hid hst
      have HR := Lib.hid hr
      have hit2 := Lib.iterAt_heap wr w.heap.size ⟨s.toArray⟩ pos (pos + k) hit
      have hb2 := Lib.below_iterAt HB.out (k := w.heap.size) (Nat.le_refl _) ⟨s.toArray⟩ (pos + k)
      have HB2 := Lib.hid hb2
      have HDD := Lib.hid hdd
      have HIT := Lib.hid (iterPos_of hit)
      have hi0 : (0 : Int) ≤ pos := by omega
      clear hst hr hb2 hdd hd HD
      by_cases h1 : v = 65533
      · have hv : ((v : Int) == 65533) = true := by simp; omega
        by_cases h2 : k = 1
        · have hk : ((k : Int) == 1) = true := by simp; omega
          have HZ := Lib.hid (show runeW (s.drop pos) = 0 by rw [HR.out, if_pos ⟨h1, h2⟩])
          clear h1 h2
          generalize wr.iterAt w.heap.size ⟨s.toArray⟩ (pos + k) = W2 at *
          go_wp2_with (fail)
          refine (HDD.out _ HB2.out).mono ?_
          rintro e w1 ⟨rfl, hw1⟩
          go_wp2_with (fail)
          go_ret
          exact ⟨by rw [HE.out, HST.out, if_pos HZ.out]; rfl, HB2.out.trans (hw1.mono HB2.out.size)⟩
        · have hk : ((k : Int) == 1) = false := by simp; omega
          have HZ := Lib.hid (show runeW (s.drop pos) = k by rw [HR.out, if_neg (fun c => h2 c.2)])
          clear h1 h2
          generalize hW2 : wr.iterAt w.heap.size ⟨s.toArray⟩ (pos + k) = W2 at *
          clear hW2
          go_wp2_with (fail)
          refine (HDD.out _ HB2.out).mono ?_
          rintro e w1 ⟨rfl, hw1⟩
          have hb3 := HB2.out.trans (hw1.mono HB2.out.size)
          have hit3 : w1.heap[w.heap.size]? = some (.stringIter ⟨s.toArray⟩ (pos + k)) := (hw1.block _ (Array.getElem?_eq_some_iff.1 hit2).1).trans hit2
          have HB3 := Lib.hid hb3
          clear hw1 hb3
          go_wp2_with (fail)
          go_roundw
          case rel => exact ⟨pos + k, by omega, hit3, Lib.hid (by rw [HE.out, HST.out, HZ.out, if_neg (by omega), List.drop_drop]), HB3⟩
          case measure => rw [iterPos_of hit3, HIT.out]; omega
      · have hv : ((v : Int) == 65533) = false := by simp; omega
        have HZ := Lib.hid (show runeW (s.drop pos) = k by rw [HR.out, if_neg (fun c => h1 c.1)])
        clear h1
        generalize hW2 : wr.iterAt w.heap.size ⟨s.toArray⟩ (pos + k) = W2 at *
        clear hW2
        go_wp2_with (fail)
        go_roundw
        case rel => exact ⟨pos + k, by omega, hit2, Lib.hid (by rw [HE.out, HST.out, HZ.out, if_neg (by omega), List.drop_drop]), HB2⟩
        case measure => rw [iterPos_of hit2, HIT.out]; omega
    · have hnx : ∀ ty, (Instr.next (.pointer (some ⟨w.heap.size, 0, none⟩)) true ty).run Tryz.prog wr = _ := fun ty => Lib.run_next_end_at wr w.heap.size ⟨s.toArray⟩ pos ty hit (by rw [hsz]; exact hlp)
      have HZ := Lib.hid (show badP s = none by rw [HE.out, List.drop_eq_nil_of_le (by omega)]; rfl)
      go_wp2_with (fail)
      go_ret
      exact ⟨by rw [HZ.out]; rfl, HB.out⟩

/-- What set gives. -/
def SetOut (s : List UInt8) (w : World) (e : Ending) (w' : World) : Prop :=
  (∀ k, closeP s = some k → e = .returned (.tuple #[.string ⟨((s.take k).drop 1).toArray⟩, .string ⟨(s.drop (k + 1)).toArray⟩, .bool true])) ∧ (closeP s = none → ∃ a b : ByteArray, e = .returned (.tuple #[.string a, .string b, .bool false])) ∧ Below w.heap.size w w'

def strLenG : Value → Nat
  | .string x => x.size
  | _ => 0

theorem u8_ne {c : UInt8} {n : Nat} (hn : n < 256) (h : c ≠ UInt8.ofNat n) : ((c.toNat : Int) == (n : Int)) = false := by
  rw [beq_eq_false_iff_ne]
  intro e
  apply h
  apply UInt8.toNat.inj
  have : c.toNat = n := by omega
  rw [this]; simp; omega

set_option maxHeartbeats 2000000 in
set_option maxRecDepth 10000 in
theorem set_any (r : List UInt8) (w : World) (hs : (91 :: r).length ≤ 4294967280) :
    Calls Tryz.prog 14 #[.string ⟨(91 :: r : List UInt8).toArray⟩] w (SetOut (91 :: r) w) := by
  have hpre := Tryz.strings_HasPrefix ⟨r.toArray⟩ ⟨[(33 : UInt8)].toArray⟩
  obtain ⟨f, hf, hf12, hfl⟩ : ∃ f, setFrom (91 :: r) = f ∧ ((f = 1 ∧ [(33 : UInt8)].isPrefixOf r = false) ∨ (f = 2 ∧ [(33 : UInt8)].isPrefixOf r = true)) ∧ f ≤ (91 :: r).length := by
    cases r with
    | nil => exact ⟨1, rfl, .inl ⟨rfl, rfl⟩, by simp⟩
    | cons c r =>
      by_cases h : c = 33
      · subst h; exact ⟨2, setFrom_2 rfl, .inr ⟨rfl, by simp⟩, by simp⟩
      · have hpf : [(33 : UInt8)].isPrefixOf (c :: r) = false := by
          rw [← Bool.not_eq_true, List.isPrefixOf_iff_prefix]
          intro e; obtain ⟨t, e⟩ := e; injection e with e _; exact h e.symm
        exact ⟨1, setFrom_1 (by simpa using h), .inl ⟨rfl, hpf⟩, by simp⟩
  have hd1 : (91 :: r : List UInt8).drop 1 = r := rfl
  have hl1 : 1 ≤ (91 :: r : List UInt8).length := by simp
  have hcl := closeA_closeP (91 :: r)
  rw [hf] at hcl
  generalize hss : (91 :: r : List UInt8) = s at *
  have hpre2 : ∀ w, Calls Tryz.prog 30 #[.string ⟨r.toArray⟩, .string ⟨#[33]⟩] w (Ret w (.bool ([(33 : UInt8)].isPrefixOf r))) := fun w => (hpre w).mono fun _ _ ⟨he, hw⟩ => ⟨he, hw ▸ Below.refl _ _⟩
  have HCL := Lib.hid hcl
  have HF := Lib.hid hf
  have HSS := Lib.hid hss
  have hdt : r.take (s.length - 1) = r := by have := HSS.out; subst this; simp
  clear hpre hcl hss
  rcases hf12 with ⟨rfl, hb⟩ | ⟨rfl, hb⟩
  · rw [hb] at hpre2
    have HP := Lib.hid hpre2
    clear hpre2 hb hf
    have HFF := Lib.hid (show setFrom s = 1 from HF.out)
    go_enter Tryz.func14, Tryz.ntmps14
    go_wp2_with (fail)
    refine (HP.out _).mono ?_
    rintro e w1 ⟨rfl, hw1⟩
    have HB1 := Lib.hid hw1
    clear hw1 hdt hd1
    go_wp2_with (fail)
    go_loopw [6] (fun t6 W => ∃ i : Nat, i ≤ s.length ∧ t6 = .int .i64 i ∧ 1 ≤ i ∧ Hid (closeP s = closeA s i) ∧ Hid (Below w.heap.size w W)) (fun t6 _ => s.length - (intOf t6).toNat)
    case atStart => exact ⟨1, by omega, rfl, by omega, Lib.hid (by rw [← HCL.out]), HB1⟩
    case round =>
      obtain ⟨i, hi, rfl, hfi, HC, HB⟩ := hrel
      have hi0 : (0 : Int) ≤ i := by omega
      by_cases hlt : i < s.length
      · have hst := closeA_step hlt
        rw [HFF.out] at hst
        by_cases h92 : s[i] = 92
        · rw [if_neg (by rw [h92]; decide), if_pos h92] at hst
          have e1 : IntKind.i64.wrap ((i : Int) + 1) = (i : Int) + 1 := IntWalk.i64_in _ (by omega)
          have hx : ((i : Int) + 1).toNat = i + 1 := by omega
          by_cases hl1 : i + 1 < s.length
          · rw [dif_pos hl1] at hst
            have hq : ((i : Int) + 1 == (s.length : Int)) = false := by simp; omega
            have hq1 : (i : Int) + 1 < (s.length : Int) := by omega
            have hq0 : (0 : Int) ≤ (i : Int) + 1 := by omega
            by_cases h47 : s[i + 1] = 47
            · rw [if_pos h47] at hst
              have HN := Lib.hid (HC.out.trans hst)
              clear hst
              go_wp2_with (fail)
              go_ret3
              exact ⟨fun k hk => by (rw [HN.out] at hk; cases hk), fun _ => ⟨_, _, rfl⟩, HB.out⟩
            · rw [if_neg h47] at hst
              have HN := Lib.hid (HC.out.trans hst)
              clear hst
              generalize hd : s[i + 1] = d at *
              have h47' := u8_ne (n := 47) (by omega) h47
              clear h47
              go_wp2_with (fail)
              go_roundw
              case rel => exact ⟨i + 2, by omega, by go_num, by omega, HN, HB⟩
              case measure => simp [intOf]; omega
          · rw [dif_neg hl1] at hst
            have hq : ((i : Int) + 1 == (s.length : Int)) = true := by simp; omega
            have HN := Lib.hid (HC.out.trans hst)
            clear hst
            go_wp2_with (fail)
            go_ret3
            exact ⟨fun k hk => by (rw [HN.out] at hk; cases hk), fun _ => ⟨_, _, rfl⟩, HB.out⟩
        · rw [if_neg h92] at hst
          by_cases h47 : s[i] = 47
          · rw [if_pos h47] at hst
            have HN := Lib.hid (HC.out.trans hst)
            clear hst h92
            go_wp2_with (fail)
            go_ret3
            exact ⟨fun k hk => by (rw [HN.out] at hk; cases hk), fun _ => ⟨_, _, rfl⟩, HB.out⟩
          · rw [if_neg h47] at hst
            by_cases h93 : s[i] = 93
            · rw [if_pos h93] at hst
              by_cases hif : i = 1
              · rw [if_pos hif] at hst
                have HN := Lib.hid (HC.out.trans hst)
                have hq : decide ((1 : Int) < (i : Int)) = false := by simp; omega
                have HIF := Lib.hid hif
                clear hif
                clear hst h92 h47
                have e1 : IntKind.i64.wrap ((i : Int) + 1) = (i : Int) + 1 := IntWalk.i64_in _ (by omega)
                have hx : ((i : Int) + 1).toNat = i + 1 := by omega
                have hq1 : (i : Int) + 1 ≤ (s.length : Int) := by omega
                have hq0 : (0 : Int) ≤ (i : Int) + 1 := by omega
                go_wp2_with (fail)
                refine wp_region_below (by kernel_rfl) (by kernel_rfl) ?_
                repeat (go_big_quiet_step (fail))
                refine wpQuiet_nil ?_
                intro W2 hW2
                go_wp2_with (fail)
                go_ret3
                exact ⟨fun k hk => by (rw [HN.out] at hk; cases hk), fun _ => ⟨_, _, rfl⟩, HB.out.trans (hW2.mono HB.out.size)⟩
              · rw [if_neg hif] at hst
                have HN := Lib.hid (HC.out.trans hst)
                have hq : decide ((1 : Int) < (i : Int)) = true := by simp; omega
                clear hst h92 h47
                have e1 : IntKind.i64.wrap ((i : Int) + 1) = (i : Int) + 1 := IntWalk.i64_in _ (by omega)
                have hx : ((i : Int) + 1).toNat = i + 1 := by omega
                have hq1 : (i : Int) + 1 ≤ (s.length : Int) := by omega
                have hq0 : (0 : Int) ≤ (i : Int) + 1 := by omega
                have ht1 : (s.drop (i + 1)).take (s.length - (i + 1)) = s.drop (i + 1) := List.take_of_length_le (by simp)
                have HT2 := Lib.hid (show (s.drop 1).take (i - 1) = (s.take i).drop 1 by rw [List.drop_take])
                go_wp2_with (fail)
                refine wp_region_below (by kernel_rfl) (by kernel_rfl) ?_
                repeat (go_big_quiet_step (fail))
                refine wpQuiet_nil ?_
                intro W2 hW2
                go_wp2_with (fail)
                go_ret3
                refine ⟨fun k hk => ?_, fun hk => ?_, HB.out.trans (hW2.mono HB.out.size)⟩
                · rw [HN.out] at hk
                  injection hk with hk
                  subst hk
                  rw [← HT2.out, List.drop_one]
                  rfl
                · rw [HN.out] at hk; cases hk
            · rw [if_neg h93] at hst
              have HN := Lib.hid (HC.out.trans hst)
              clear hst
              generalize hc : s[i] = c at *
              have h92' := u8_ne (n := 92) (by omega) h92
              have h47' := u8_ne (n := 47) (by omega) h47
              have h93' := u8_ne (n := 93) (by omega) h93
              clear h92 h47 h93
              go_wp2_with (fail)
              go_roundw
              case rel => exact ⟨i + 1, by omega, by go_num, by omega, HN, HB⟩
              case measure => simp [intOf]; omega
      · have HN := Lib.hid (HC.out.trans (closeA_end (by omega)))
        go_wp2_with (fail)
        go_ret3
        exact ⟨fun k hk => by (rw [HN.out] at hk; cases hk), fun _ => ⟨_, _, rfl⟩, HB.out⟩
  · rw [hb] at hpre2
    have HP := Lib.hid hpre2
    clear hpre2 hb hf
    have HFF := Lib.hid (show setFrom s = 2 from HF.out)
    go_enter Tryz.func14, Tryz.ntmps14
    go_wp2_with (fail)
    refine (HP.out _).mono ?_
    rintro e w1 ⟨rfl, hw1⟩
    have HB1 := Lib.hid hw1
    clear hw1 hdt hd1
    go_wp2_with (fail)
    go_loopw [6] (fun t6 W => ∃ i : Nat, i ≤ s.length ∧ t6 = .int .i64 i ∧ 2 ≤ i ∧ Hid (closeP s = closeA s i) ∧ Hid (Below w.heap.size w W)) (fun t6 _ => s.length - (intOf t6).toNat)
    case atStart => exact ⟨2, by omega, rfl, by omega, Lib.hid (by rw [← HCL.out]), HB1⟩
    case round =>
      obtain ⟨i, hi, rfl, hfi, HC, HB⟩ := hrel
      have hi0 : (0 : Int) ≤ i := by omega
      by_cases hlt : i < s.length
      · have hst := closeA_step hlt
        rw [HFF.out] at hst
        by_cases h92 : s[i] = 92
        · rw [if_neg (by rw [h92]; decide), if_pos h92] at hst
          have e1 : IntKind.i64.wrap ((i : Int) + 1) = (i : Int) + 1 := IntWalk.i64_in _ (by omega)
          have hx : ((i : Int) + 1).toNat = i + 1 := by omega
          by_cases hl1 : i + 1 < s.length
          · rw [dif_pos hl1] at hst
            have hq : ((i : Int) + 1 == (s.length : Int)) = false := by simp; omega
            have hq1 : (i : Int) + 1 < (s.length : Int) := by omega
            have hq0 : (0 : Int) ≤ (i : Int) + 1 := by omega
            by_cases h47 : s[i + 1] = 47
            · rw [if_pos h47] at hst
              have HN := Lib.hid (HC.out.trans hst)
              clear hst
              go_wp2_with (fail)
              go_ret3
              exact ⟨fun k hk => by (rw [HN.out] at hk; cases hk), fun _ => ⟨_, _, rfl⟩, HB.out⟩
            · rw [if_neg h47] at hst
              have HN := Lib.hid (HC.out.trans hst)
              clear hst
              generalize hd : s[i + 1] = d at *
              have h47' := u8_ne (n := 47) (by omega) h47
              clear h47
              go_wp2_with (fail)
              go_roundw
              case rel => exact ⟨i + 2, by omega, by go_num, by omega, HN, HB⟩
              case measure => simp [intOf]; omega
          · rw [dif_neg hl1] at hst
            have hq : ((i : Int) + 1 == (s.length : Int)) = true := by simp; omega
            have HN := Lib.hid (HC.out.trans hst)
            clear hst
            go_wp2_with (fail)
            go_ret3
            exact ⟨fun k hk => by (rw [HN.out] at hk; cases hk), fun _ => ⟨_, _, rfl⟩, HB.out⟩
        · rw [if_neg h92] at hst
          by_cases h47 : s[i] = 47
          · rw [if_pos h47] at hst
            have HN := Lib.hid (HC.out.trans hst)
            clear hst h92
            go_wp2_with (fail)
            go_ret3
            exact ⟨fun k hk => by (rw [HN.out] at hk; cases hk), fun _ => ⟨_, _, rfl⟩, HB.out⟩
          · rw [if_neg h47] at hst
            by_cases h93 : s[i] = 93
            · rw [if_pos h93] at hst
              by_cases hif : i = 2
              · rw [if_pos hif] at hst
                have HN := Lib.hid (HC.out.trans hst)
                have hq : decide ((2 : Int) < (i : Int)) = false := by simp; omega
                have HIF := Lib.hid hif
                clear hif
                clear hst h92 h47
                have e1 : IntKind.i64.wrap ((i : Int) + 1) = (i : Int) + 1 := IntWalk.i64_in _ (by omega)
                have hx : ((i : Int) + 1).toNat = i + 1 := by omega
                have hq1 : (i : Int) + 1 ≤ (s.length : Int) := by omega
                have hq0 : (0 : Int) ≤ (i : Int) + 1 := by omega
                go_wp2_with (fail)
                refine wp_region_below (by kernel_rfl) (by kernel_rfl) ?_
                repeat (go_big_quiet_step (fail))
                refine wpQuiet_nil ?_
                intro W2 hW2
                go_wp2_with (fail)
                go_ret3
                exact ⟨fun k hk => by (rw [HN.out] at hk; cases hk), fun _ => ⟨_, _, rfl⟩, HB.out.trans (hW2.mono HB.out.size)⟩
              · rw [if_neg hif] at hst
                have HN := Lib.hid (HC.out.trans hst)
                have hq : decide ((2 : Int) < (i : Int)) = true := by simp; omega
                clear hst h92 h47
                have e1 : IntKind.i64.wrap ((i : Int) + 1) = (i : Int) + 1 := IntWalk.i64_in _ (by omega)
                have hx : ((i : Int) + 1).toNat = i + 1 := by omega
                have hq1 : (i : Int) + 1 ≤ (s.length : Int) := by omega
                have hq0 : (0 : Int) ≤ (i : Int) + 1 := by omega
                have ht1 : (s.drop (i + 1)).take (s.length - (i + 1)) = s.drop (i + 1) := List.take_of_length_le (by simp)
                have HT2 := Lib.hid (show (s.drop 1).take (i - 1) = (s.take i).drop 1 by rw [List.drop_take])
                go_wp2_with (fail)
                refine wp_region_below (by kernel_rfl) (by kernel_rfl) ?_
                repeat (go_big_quiet_step (fail))
                refine wpQuiet_nil ?_
                intro W2 hW2
                go_wp2_with (fail)
                go_ret3
                refine ⟨fun k hk => ?_, fun hk => ?_, HB.out.trans (hW2.mono HB.out.size)⟩
                · rw [HN.out] at hk
                  injection hk with hk
                  subst hk
                  rw [← HT2.out, List.drop_one]
                  rfl
                · rw [HN.out] at hk; cases hk
            · rw [if_neg h93] at hst
              have HN := Lib.hid (HC.out.trans hst)
              clear hst
              generalize hc : s[i] = c at *
              have h92' := u8_ne (n := 92) (by omega) h92
              have h47' := u8_ne (n := 47) (by omega) h47
              have h93' := u8_ne (n := 93) (by omega) h93
              clear h92 h47 h93
              go_wp2_with (fail)
              go_roundw
              case rel => exact ⟨i + 1, by omega, by go_num, by omega, HN, HB⟩
              case measure => simp [intOf]; omega
      · have HN := Lib.hid (HC.out.trans (closeA_end (by omega)))
        go_wp2_with (fail)
        go_ret3
        exact ⟨fun k hk => by (rw [HN.out] at hk; cases hk), fun _ => ⟨_, _, rfl⟩, HB.out⟩
end Go.Proofs.YtgppfcaghjbjmaaGreatDoor
end

/- glob.Check. -/
section
namespace Go.Proofs.YtgppfcaghjbjmaaGreatDoor
open Go.RowKit Plain

theorem u8_ne' {c : UInt8} {n : Nat} (hn : n < 256) (h : c ≠ UInt8.ofNat n) : decide ((c.toNat : Int) = (n : Int)) = false := by
  have := u8_ne hn h
  simpa using this

set_option maxHeartbeats 2000000 in
set_option maxRecDepth 10000 in
theorem Check_main (s : List UInt8) (w : World) (hT : Tabs w) (h0 : s ≠ []) (h400 : s.length ≤ 400) :
    Calls Tryz.prog 6 #[.string ⟨s.toArray⟩] w (Ret w (.tuple #[.int .i64 (checkP 400 s).1, .int .i64 (checkP 400 s).2])) := by
  have hinv := invalid_any s w hT (by omega)
  have hno : ¬ (s = [] ∨ 400 < s.length) := by rintro (h | h); exact h0 h; omega
  have hse : s.isEmpty = false := by cases s; exact absurd rfl h0; rfl
  have h4 : decide ((400 : Int) < (s.length : Int)) = false := by simp; omega
  cases hb : badP s with
  | some k =>
    rw [hb] at hinv
    have HC := Lib.hid (checkP_bad hno hb)
    have hk0 : decide ((0 : Int) ≤ (k : Int)) = true := by simp
    have HI := Lib.hid hinv
    clear hinv hno h0 hb hT
    go_enter Tryz.func6, Tryz.ntmps6
    go_wp2_with (fail)
    refine HI.out.mono ?_
    rintro e w1 ⟨rfl, hw1⟩
    go_wp2_with (fail)
    go_ret2
    exact ⟨by rw [HC.out]; rfl, hw1⟩
  | none =>
    rw [hb] at hinv
    have HC := Lib.hid (checkP_loop hno hb)
    have HI := Lib.hid hinv
    have HSET := Lib.hid (fun (r : List UInt8) W (h : (91 :: r).length ≤ 4294967280) => set_any r W h)
    clear hinv hno h0 hb hT
    go_enter Tryz.func6, Tryz.ntmps6
    go_wp2_with (fail)
    refine HI.out.mono ?_
    rintro e w1 ⟨rfl, hw1⟩
    have HB1 := Lib.hid hw1
    clear hw1
    go_wp2_with (fail)
    go_loopw [5, 6] (fun t5 t6 W => ∃ (k : Nat) (b : Bool) (r : List UInt8), k + r.length = s.length ∧ t6 = .string ⟨r.toArray⟩ ∧ t5 = .bool (!b) ∧ Hid (checkP 400 s = loopA k b r) ∧ Hid (Below w.heap.size w W)) (fun _ t6 _ => strLenG t6)
    case atStart => exact ⟨0, false, s, by omega, rfl, rfl, HC, HB1⟩
    case round =>
      obtain ⟨k, b, r, hkr, rfl, rfl, HE, HB⟩ := hrel
      cases r with
      | nil =>
        have HZ := Lib.hid (HE.out.trans (loopA_nil k b))
        go_wp2_with (fail)
        go_ret2
        exact ⟨by rw [HZ.out]; rfl, HB.out⟩
      | cons c q =>
        have hat : IntKind.i64.wrap ((s.length : Int) - ((q.length : Int) + 1)) = (k : Int) := by
          simp at hkr
          rw [show (s.length : Int) - ((q.length : Int) + 1) = k by omega]
          exact IntWalk.i64_in _ (by omega)
        have hkl : k + q.length + 1 = s.length := by simp at hkr; omega
        clear hkr
        by_cases h47 : c = 47
        · subst h47
          have hst := HE.out.trans loopA_slash
          cases b with
          | false =>
            rw [if_pos (.inl rfl)] at hst
            have HZ := Lib.hid hst
            clear hst
            go_wp2_with (fail)
            go_ret2
            exact ⟨by rw [HZ.out]; rfl, HB.out⟩
          | true =>
            cases q with
            | nil =>
              rw [if_pos (.inr rfl)] at hst
              have HZ := Lib.hid hst
              have HK := Lib.hid (show (k : Int) = (s.length : Int) - 1 by simp at hkl; omega)
              clear hst
              go_wp2_with (fail)
              go_ret2
              exact ⟨by rw [HZ.out]; show _ = Ending.returned (.tuple #[.int .i64 (k : Int), .int .i64 20]); rw [HK.out]; rfl, HB.out⟩
            | cons d q =>
              rw [if_neg (by simp)] at hst
              have HZ := Lib.hid hst
              have hq1 : ((q.length : Int) + 1 + 1 == 1) = false := by simp; omega
              clear hst
              go_wp2_with (fail)
              go_roundw
              case rel => exact ⟨k + 1, false, d :: q, by simp at hkl ⊢; omega, by simp, rfl, HZ, HB⟩
              case measure => simp [strLenG, ByteArray.size]
        have hc47 := u8_ne (n := 47) (by omega) h47
        by_cases h92 : c = 92
        · subst h92
          cases q with
          | nil =>
            have HZ := Lib.hid (HE.out.trans loopA_back0)
            have HK := Lib.hid (show (k : Int) = (s.length : Int) - 1 by simp at hkl; omega)
            go_wp2_with (fail)
            go_ret2
            exact ⟨by rw [HZ.out]; show _ = Ending.returned (.tuple #[.int .i64 (k : Int), .int .i64 20]); rw [HK.out]; rfl, HB.out⟩
          | cons d q =>
            have hst := HE.out.trans loopA_back
            have hat2 : IntKind.i64.wrap ((s.length : Int) - ((q.length : Int) + 1 + 1)) = (k : Int) := by
              simp at hkl
              rw [show (s.length : Int) - ((q.length : Int) + 1 + 1) = k by omega]
              exact IntWalk.i64_in _ (by omega)
            have hq1 : ((q.length : Int) + 1 + 1 == 1) = false := by simp; omega
            by_cases hd : d = 47
            · rw [if_pos hd] at hst
              have HZ := Lib.hid hst
              subst hd
              clear hst
              go_wp2_with (fail)
              go_ret2
              exact ⟨by rw [HZ.out]; rfl, HB.out⟩
            · rw [if_neg hd] at hst
              have HZ := Lib.hid hst
              have hd47 := u8_ne (n := 47) (by omega) hd
              clear hst hd
              go_wp2_with (fail)
              go_roundw
              case rel => exact ⟨k + 2, true, q, by simp at hkl ⊢; omega, by simp, rfl, HZ, HB⟩
              case measure => simp [strLenG, ByteArray.size]; omega
        have hc92 := u8_ne (n := 92) (by omega) h92
        by_cases h91 : c = 91
        · subst h91
          have hset := HSET.out q wr (by simp at hkl ⊢; omega)
          cases hcl : closeP (91 :: q) with
          | none =>
            have HZ := Lib.hid (HE.out.trans (loopA_set_none hcl))
            have HS := Lib.hid hset
            have HCL := Lib.hid hcl
            clear hset hcl
            go_wp2_with (fail)
            refine HS.out.mono ?_
            rintro e w2 ⟨_, h2, hw2⟩
            obtain ⟨a1, a2, rfl⟩ := h2 HCL.out
            go_wp2_with (fail)
            go_ret2
            exact ⟨by rw [HZ.out]; rfl, HB.out.trans (hw2.mono HB.out.size)⟩
          | some e =>
            have HZ := Lib.hid (HE.out.trans (loopA_set_some hcl))
            have HS := Lib.hid hset
            have HCL := Lib.hid hcl
            have hel : e < (91 :: q).length ∧ 1 ≤ e := by
              have h1 : setFrom (91 :: q) ≤ e ∧ e < setFrom (91 :: q) + ((91 :: q).drop (setFrom (91 :: q))).length ∧ e ≠ setFrom (91 :: q) ∧ ((91 :: q).drop (setFrom (91 :: q))).getD (e - setFrom (91 :: q)) 0 = 93 := closeF_le _ _ _ _ _ (Nat.le_refl _) hcl
              obtain ⟨h1, h2, _⟩ := h1
              have h3 : 1 ≤ setFrom (91 :: q) := by unfold setFrom; split <;> omega
              simp only [List.length_drop] at h2
              omega
            clear hset hcl
            generalize hrr : ((91 :: q : List UInt8).drop (e + 1)) = rr at *
            have hrl : k + e + 1 + rr.length = s.length := by rw [← hrr]; simp at hel ⊢; omega
            generalize ((91 :: q : List UInt8).take e).drop 1 = ii at *
            go_wp2_with (fail)
            refine HS.out.mono ?_
            rintro ee w2 ⟨h2, _, hw2⟩
            obtain rfl := h2 e HCL.out
            have HB2 := Lib.hid (HB.out.trans (hw2.mono HB.out.size))
            have HRR := Lib.hid hrr
            clear hw2 h2 hrr
            go_wp2_with (fail)
            go_roundw
            case rel => exact ⟨k + e + 1, true, rr, hrl, by rw [← HRR.out]; rfl, rfl, HZ, HB2⟩
            case measure =>
              have hq := HRR.out
              rw [List.drop_succ_cons] at hq
              rw [hq]; simp [strLenG, ByteArray.size]; omega
        have hc91 := u8_ne (n := 91) (by omega) h91
        have HZ := Lib.hid (HE.out.trans (loopA_one h47 h92 h91))
        clear h47 h92 h91
        go_wp2_with (fail)
        go_roundw
        case rel => exact ⟨k + 1, true, q, by omega, by simp, rfl, HZ, HB⟩
        case measure => simp [strLenG, ByteArray.size]

theorem Check_all (s : List UInt8) (w : World) (hT : Tabs w) :
    Calls Tryz.prog 6 #[.string ⟨s.toArray⟩] w (Ret w (.tuple #[.int .i64 (checkP 400 s).1, .int .i64 (checkP 400 s).2])) := by
  by_cases h0 : s = []
  · subst h0
    have HC := Lib.hid (checkP_long (m := 400) (s := []) (.inl rfl))
    go_enter Tryz.func6, Tryz.ntmps6
    go_wp2_with (fail)
    go_ret2
    exact ⟨by rw [HC.out]; rfl, Below.refl _ _⟩
  by_cases h4 : 400 < s.length
  · have HC := Lib.hid (checkP_long (m := 400) (s := s) (.inr h4))
    have hse : s.isEmpty = false := by cases s; exact absurd rfl h0; rfl
    have h4' : decide ((400 : Int) < (s.length : Int)) = true := by simp; omega
    clear h0 h4
    go_enter Tryz.func6, Tryz.ntmps6
    go_wp2_with (fail)
    go_ret2
    exact ⟨by rw [HC.out]; rfl, Below.refl _ _⟩
  exact Check_main s w hT h0 (by omega)
theorem Check_any (s : List UInt8) (w : World) (hT : Tabs w) (_ : s.length ≤ 9223372036854775807) :
    Calls Tryz.prog 6 #[.string ⟨s.toArray⟩] w (Ret w (.tuple #[.int .i64 (checkP 400 s).1, .int .i64 (checkP 400 s).2])) := Check_all s w hT
end Go.Proofs.YtgppfcaghjbjmaaGreatDoor
end

/- Whole rows: a store into a row of the call's own, a load of one. -/
section
namespace Go.Proofs.YtgppfcaghjbjmaaGreatDoor
open Go.RowKit

theorem heap_setCells {e : TypeId} {g : Nat} : ∀ (vs : List Value) (o : Nat) (C : Array Value) (w : World), w.heap[g]? = some (.cells C e (0, 0)) → o + vs.length ≤ C.size →
    (w.setCells g o vs).heap[g]? = some (.cells (C.toList.take o ++ vs ++ C.toList.drop (o + vs.length)).toArray e (0, 0)) ∧ w.grownBy (w.setCells g o vs) (some g) ∧ (w.setCells g o vs).heap.size = w.heap.size
  | [], o, C, w, h, _ => ⟨by simpa [World.setCells] using h, gb_refl _ _, rfl⟩
  | v :: vs, o, C, w, h, hl => by
    simp only [List.length_cons] at hl
    have h1 := heap_set h o v
    obtain ⟨h2, h3, h4⟩ := heap_setCells vs (o + 1) (C.setIfInBounds o v) (w.setCell ⟨g, o, none⟩ v) h1 (by simp; omega)
    refine ⟨?_, ?_, ?_⟩
    · show (World.setCells (w.setCell ⟨g, o, none⟩ v) g (o + 1) vs).heap[g]? = _
      rw [h2]
      congr 2
      have e1 : (C.setIfInBounds o v).toList.take (o + 1) = C.toList.take o ++ [v] := by
        rw [Array.toList_setIfInBounds, List.take_set, List.take_succ_eq_append_getElem (by simp; omega)]
        rw [List.set_append_right _ _ (by simp; omega)]
        have hm : min o C.size = o := by omega
        simp [hm]
      have e2 : (C.setIfInBounds o v).toList.drop (o + 1 + vs.length) = C.toList.drop (o + (v :: vs).length) := by
        rw [Array.toList_setIfInBounds, List.drop_set_of_lt (by omega), List.length_cons]; congr 1; omega
      rw [e1, e2]; simp
    · show w.grownBy (World.setCells (w.setCell ⟨g, o, none⟩ v) g (o + 1) vs) (some g)
      have hs := gb_set (gb_refl w (some g)) (p := ⟨g, o, none⟩) (.inl rfl) v
      exact ⟨h3.os.trans hs.os, h3.tape.trans hs.tape, h3.output.trans hs.output, Nat.le_trans hs.size h3.size, fun i hi hne => (h3.block i (Nat.lt_of_lt_of_le hi hs.size) hne).trans (hs.block i hi hne)⟩
    · show (World.setCells (w.setCell ⟨g, o, none⟩ v) g (o + 1) vs).heap.size = _
      rw [h4]; simp [World.setCell]

/-- A whole row is stored. -/
theorem wpList_store_row {P : Program} {ops : Array Oper} {rest : List Oper} {op : Oper} {a : Act} {w : World} {Q : Exit → Act → World → Prop} (hgd : op.guard = none) (ty : TypeId) (x y : Operand) (ho : op.op = .store ty x y)
    (g : Nat) (cells C : Array Value) (e : TypeId) (hx : a.eval x = .pointer (some ⟨g, 0, none⟩)) (hy : a.eval y = .agg cells)
    (hg : w.heap[g]? = some (.cells C e (0, 0))) (hC : C.size = cells.size) (hi : (P.info? ty).map (·.size) = some cells.size) (h1 : cells.all (·.oneCell') = true)
    (h : ∀ w', w.grownBy w' (some g) → w'.heap.size = w.heap.size → w'.heap[g]? = some (.cells cells e (0, 0)) → wpList P ops Q rest (a.put op.dst undef) w') : wpList P ops Q (op :: rest) a w := by
  obtain ⟨h2, h3, h4⟩ := heap_setCells cells.toList 0 C w hg (by simp [hC])
  refine wpList_store_mid hgd ty x y ho g 0 cells hx hy (fun j hj => ?_) hi h1 (h _ h3 h4 ?_)
  · refine ⟨?_, frozen_of_row w g _ C e hg⟩
    rw [cell_of_row w g _ C e _ hg]
    simp [hC, hj]
  · rw [h2, List.take_zero, List.drop_eq_nil_of_le (by simp [hC])]; simp

theorem heap_new' (W : World) (o : Obj) (n : Nat) (h : W.heap.size = n) : (W.alloc o).heap[n]? = some o := by subst h; exact heap_alloc_new W o
theorem heap_old' {W : World} {o x : Obj} {n : Nat} (h : W.heap[n]? = some x) : (W.alloc o).heap[n]? = some x := by
  rw [Below.heap_alloc _ _ _ (Array.getElem?_eq_some_iff.1 h).1]; exact h

end Go.Proofs.YtgppfcaghjbjmaaGreatDoor
end

/- Rows of structs: a list of values, each of so many cells, in a row of the call's own. -/
section
namespace Go.Proofs.YtgppfcaghjbjmaaGreatDoor
open Go.RowKit

section
variable {α : Type}
def rowsE (enc : α → List Value) (l : List α) : List Value := l.flatMap enc
variable {enc : α → List Value} {m : Nat}
theorem rowsE_cons (x : α) (l : List α) : rowsE enc (x :: l) = enc x ++ rowsE enc l := by simp [rowsE]
theorem rowsE_append (l k : List α) : rowsE enc (l ++ k) = rowsE enc l ++ rowsE enc k := by simp [rowsE]
theorem rowsE_one (x : α) : rowsE enc [x] = enc x := by simp [rowsE]
theorem rowsE_nil : rowsE enc [] = [] := rfl
theorem rowsE_length (hm : ∀ x, (enc x).length = m) (l : List α) : (rowsE enc l).length = l.length * m := by
  induction l with
  | nil => simp [rowsE]
  | cons x l ih => rw [rowsE_cons, List.length_append, hm, ih, List.length_cons, Nat.add_mul]; omega
theorem rowsE_oneCell (h1 : ∀ x, ∀ u ∈ enc x, u.oneCell' = true) (l : List α) : ∀ u ∈ rowsE enc l, u.oneCell' = true := by
  intro u hu
  obtain ⟨x, -, hx⟩ := List.mem_flatMap.1 hu
  exact h1 x u hx
theorem rowsE_get (hm : ∀ x, (enc x).length = m) (l : List α) : ∀ (j : Nat) (h : j < l.length) (i : Nat), i < m → (rowsE enc l)[j * m + i]? = (enc l[j])[i]? := by
  induction l with
  | nil => intro j h; simp at h
  | cons x l ih =>
    intro j h i hi
    rw [rowsE_cons]
    cases j with
    | zero => rw [List.getElem?_append_left (by rw [hm]; omega)]; simp
    | succ j =>
      rw [List.getElem?_append_right (by rw [hm, Nat.add_mul]; omega), hm, List.getElem_cons_succ, ← ih j (by simpa using h) i hi]
      congr 1; rw [Nat.add_mul]; omega
theorem rowsE_set (hm : ∀ x, (enc x).length = m) (l : List α) : ∀ (j : Nat) (_ : j < l.length) (x : α), rowsE enc (l.set j x) = (rowsE enc l).take (j * m) ++ enc x ++ (rowsE enc l).drop (j * m + m) := by
  induction l with
  | nil => intro j h; simp at h
  | cons y l ih =>
    intro j h x
    cases j with
    | zero =>
      rw [List.set_cons_zero, rowsE_cons, rowsE_cons]
      simp [hm]
    | succ j =>
      rw [List.set_cons_succ, rowsE_cons, rowsE_cons, ih j (by simpa using h) x]
      have h1 : (enc y).take ((j + 1) * m) = enc y := List.take_of_length_le (by rw [hm, Nat.add_mul]; omega)
      have h2 : (enc y).drop ((j + 1) * m + m) = [] := List.drop_eq_nil_of_le (by rw [hm, Nat.add_mul]; omega)
      rw [List.take_append, List.drop_append, hm, h1, h2]
      rw [show (j + 1) * m - m = j * m by rw [Nat.add_mul]; omega, show (j + 1) * m + m - m = j * m + m by rw [Nat.add_mul]; omega]
      simp
theorem rows_mid {A vs : List Value} {o k : Nat} (hv : vs.length = m) (h1 : o + m ≤ k) (h2 : k ≤ A.length) : (A.take o ++ vs ++ A.drop (o + m)).take k = (A.take k).take o ++ vs ++ (A.take k).drop (o + m) := by
  have hl : (A.take o ++ vs).length = o + m := by simp [hv]; omega
  rw [List.take_append, hl, List.take_of_length_le (by omega), List.take_take, Nat.min_eq_left (by omega), List.drop_take]

variable {w w' : World} {base g c : Nat} {t : TypeId} {l : List α}
theorem rowsE_some {v : Value} (h : w.ownsRow base t m v l.length (rowsE enc l)) (hn : 0 < l.length) : ∃ g c, v = .slice (some ⟨g, 0, none⟩) l.length c ∧ base ≤ g ∧ g < w.heap.size := by
  rcases h.2 with ⟨h1, h2⟩ | ⟨g, cap, cur, h1, h2, h3, -⟩
  · omega
  · exact ⟨g, cap, h1, h2, (Array.getElem?_eq_some_iff.1 h3).1⟩
theorem rowsE_cell (hm : ∀ x, (enc x).length = m) (h : w.ownsRow base t m (.slice (some ⟨g, 0, none⟩) l.length c) l.length (rowsE enc l)) {j : Nat} (hj : j < l.length) {i : Nat} (hi : i < m) : w.cell? ⟨g, j * m + i, none⟩ = (enc l[j])[i]? := by
  have h1 := rowsE_get hm l j hj i hi
  have h2 : i < (enc l[j]).length := by rw [hm]; exact hi
  rw [List.getElem?_eq_getElem h2] at h1 ⊢
  have := h.cells (g := g) rfl (j * m + i) _ h1
  simpa [Addr.add_mid] using this
theorem rowsE_frozen (h : w.ownsRow base t m (.slice (some ⟨g, 0, none⟩) l.length c) l.length (rowsE enc l)) (i : Nat) : w.frozen? ⟨g, i, none⟩ = false := by
  rcases h.2 with ⟨h1, h2⟩ | ⟨g', cap, cur, h1, h2, h3, -⟩
  · cases h1
  · injection h1 with h1 _ _
    injection h1 with h1
    injection h1 with h1 _ _
    subst h1
    exact frozen_of_row w g _ _ _ h3
theorem rowsE_there (hm : ∀ x, (enc x).length = m) (h : w.ownsRow base t m (.slice (some ⟨g, 0, none⟩) l.length c) l.length (rowsE enc l)) {j : Nat} (hj : j < l.length) : w.there g (j * m) m := by
  intro i hi
  refine ⟨?_, rowsE_frozen h _⟩
  rw [rowsE_cell hm h hj hi, List.getElem?_eq_getElem (by rw [hm]; exact hi)]; rfl
theorem rowsE_range (hm : ∀ x, (enc x).length = m) (h : w.ownsRow base t m (.slice (some ⟨g, 0, none⟩) l.length c) l.length (rowsE enc l)) {j : Nat} (hj : j < l.length) : w.rangeAt g (j * m) (enc l[j]) := by
  intro i v hv
  have hi : i < m := by have := (List.getElem?_eq_some_iff.1 hv).1; rwa [hm] at this
  rw [rowsE_cell hm h hj hi]; exact hv
theorem rowsE_setrow (hm : ∀ x, (enc x).length = m) (h : w.ownsRow base t m (.slice (some ⟨g, 0, none⟩) l.length c) l.length (rowsE enc l)) {j : Nat} (hj : j < l.length) (x : α) :
    (w.setCells g (j * m) (enc x)).ownsRow base t m (.slice (some ⟨g, 0, none⟩) l.length c) l.length (rowsE enc (l.set j x)) ∧ w.grownBy (w.setCells g (j * m) (enc x)) (some g) := by
  rcases h.2 with ⟨h1, h2⟩ | ⟨g', cap, cur, h1, h2, h3, h4, h5, h6, h7⟩
  · cases h1
  · injection h1 with h1 _ h1c
    injection h1 with h1
    injection h1 with h1 _ _
    subst h1 h1c
    have hle : (j + 1) * m ≤ l.length * m := Nat.mul_le_mul_right m hj
    have hle2 : l.length * m ≤ c * m := Nat.mul_le_mul_right m h4
    rw [Nat.add_mul] at hle
    obtain ⟨e1, e2, e3⟩ := heap_setCells (enc x) (j * m) cur w h3 (by rw [hm, h6]; omega)
    rw [hm] at e1
    refine ⟨⟨by rw [rowsE_length hm, List.length_set], .inr ⟨g, c, _, rfl, h2, e1, h4, h5, ?_, ?_⟩⟩, e2⟩
    · simp [hm]; omega
    · show (List.take _ _) = _
      rw [rows_mid (hm x) (by omega) (by simp; omega), h7, rowsE_set hm l j hj x]
/-- one cell of a row is stored -/
theorem rowsE_setcell (hm : ∀ x, (enc x).length = m) (h : w.ownsRow base t m (.slice (some ⟨g, 0, none⟩) l.length c) l.length (rowsE enc l)) {j : Nat} (hj : j < l.length) {i : Nat} (hi : i < m) (u : Value) (x : α) (hx : enc x = (enc l[j]).set i u) :
    (w.setCell ⟨g, j * m + i, none⟩ u).ownsRow base t m (.slice (some ⟨g, 0, none⟩) l.length c) l.length (rowsE enc (l.set j x)) ∧ w.grownBy (w.setCell ⟨g, j * m + i, none⟩ u) (some g) := by
  have hle : (j + 1) * m ≤ l.length * m := Nat.mul_le_mul_right m hj
  rw [Nat.add_mul] at hle
  refine ⟨?_, gb_set (gb_refl w _) (.inl rfl) u⟩
  rcases h.2 with ⟨h1, h2⟩ | ⟨g', cap, cur, h1, h2, h3, h4, h5, h6, h7⟩
  · cases h1
  · injection h1 with h1 _ h1c
    injection h1 with h1
    injection h1 with h1 _ _
    subst h1 h1c
    refine ⟨by rw [rowsE_length hm, List.length_set], .inr ⟨g, c, _, rfl, h2, heap_set h3 _ u, h4, h5, by simpa using h6, ?_⟩⟩
    rw [Array.toList_setIfInBounds, List.take_set, h7, rowsE_set hm l j hj x, hx]
    have hl := rowsE_length hm l
    have hlj := hm l[j]
    have e1 : (rowsE enc l).take (j * m) ++ enc l[j] ++ (rowsE enc l).drop (j * m + m) = rowsE enc l := by
      rw [← rowsE_set hm l j hj l[j]]; simp
    conv => lhs; rw [← e1]
    rw [List.append_assoc, List.append_assoc, List.set_append_right _ _ (by simp; omega), List.length_take, hl, Nat.min_eq_left (by omega), show j * m + i - j * m = i by omega, List.set_append_left _ _ (by omega)]
end
end Go.Proofs.YtgppfcaghjbjmaaGreatDoor
end
