/- glob.Check. -/
import Derived.Test.YtgppfcaghjbjmaaDoorGlob1
namespace Go.Proofs.YtgppfcaghjbjmaaDoor
open Go.RowKit Plain

theorem u8_ne' {c : UInt8} {n : Nat} (hn : n < 256) (h : c ≠ UInt8.ofNat n) : decide ((c.toNat : Int) = (n : Int)) = false := by
  have := u8_ne hn h
  simpa using this

set_option maxHeartbeats 2000000 in
set_option maxRecDepth 10000 in
theorem Check_main (s : List UInt8) (w : World) (hT : Tabs w) (h0 : s ≠ []) (h400 : s.length ≤ 400) :
    Calls Tryd.prog 12 #[.string ⟨s.toArray⟩] w (Ret w (.tuple #[.int .i64 (checkP 400 s).1, .int .i64 (checkP 400 s).2])) := by
  have hinv := invalid_any s w hT (by omega)
  have hno : ¬ (s = [] ∨ 400 < s.length) := by rintro (h | h); exact h0 h; omega
  have hse : s.isEmpty = false := by cases s; exact absurd rfl h0; rfl
  have h4 : decide ((400 : Int) < (s.length : Int)) = false := by simp; omega
  cases hb : badP s with
  | some k =>
    rw [hb] at hinv
    have HC := Lib.hid (checkP_bad hno hb)
    have hk0 : decide ((0 : Int) ≤ (k : Int)) = true := by simp
    have HI := Lib.hid hinv
    clear hinv hno h0 hb hT
    go_enter Tryd.func12, Tryd.ntmps12
    go_wp2_with (fail)
    refine HI.out.mono ?_
    rintro e w1 ⟨rfl, hw1⟩
    go_wp2_with (fail)
    go_ret2
    exact ⟨by rw [HC.out]; rfl, hw1⟩
  | none =>
    rw [hb] at hinv
    have HC := Lib.hid (checkP_loop hno hb)
    have HI := Lib.hid hinv
    have HSET := Lib.hid (fun (r : List UInt8) W (h : (91 :: r).length ≤ 4294967280) => set_any r W h)
    clear hinv hno h0 hb hT
    go_enter Tryd.func12, Tryd.ntmps12
    go_wp2_with (fail)
    refine HI.out.mono ?_
    rintro e w1 ⟨rfl, hw1⟩
    have HB1 := Lib.hid hw1
    clear hw1
    go_wp2_with (fail)
    go_loopw [5, 6] (fun t5 t6 W => ∃ (k : Nat) (b : Bool) (r : List UInt8), k + r.length = s.length ∧ t6 = .string ⟨r.toArray⟩ ∧ t5 = .bool (!b) ∧ Hid (checkP 400 s = loopA k b r) ∧ Hid (Below w.heap.size w W)) (fun _ t6 _ => strLenG t6)
    case atStart => exact ⟨0, false, s, by omega, rfl, rfl, HC, HB1⟩
    case round =>
      obtain ⟨k, b, r, hkr, rfl, rfl, HE, HB⟩ := hrel
      cases r with
      | nil =>
        have HZ := Lib.hid (HE.out.trans (loopA_nil k b))
        go_wp2_with (fail)
        go_ret2
        exact ⟨by rw [HZ.out]; rfl, HB.out⟩
      | cons c q =>
        have hat : IntKind.i64.wrap ((s.length : Int) - ((q.length : Int) + 1)) = (k : Int) := by
          simp at hkr
          rw [show (s.length : Int) - ((q.length : Int) + 1) = k by omega]
          exact IntWalk.i64_in _ (by omega)
        have hkl : k + q.length + 1 = s.length := by simp at hkr; omega
        clear hkr
        by_cases h47 : c = 47
        · subst h47
          have hst := HE.out.trans loopA_slash
          cases b with
          | false =>
            rw [if_pos (.inl rfl)] at hst
            have HZ := Lib.hid hst
            clear hst
            go_wp2_with (fail)
            go_ret2
            exact ⟨by rw [HZ.out]; rfl, HB.out⟩
          | true =>
            cases q with
            | nil =>
              rw [if_pos (.inr rfl)] at hst
              have HZ := Lib.hid hst
              have HK := Lib.hid (show (k : Int) = (s.length : Int) - 1 by simp at hkl; omega)
              clear hst
              go_wp2_with (fail)
              go_ret2
              exact ⟨by rw [HZ.out]; show _ = Ending.returned (.tuple #[.int .i64 (k : Int), .int .i64 20]); rw [HK.out]; rfl, HB.out⟩
            | cons d q =>
              rw [if_neg (by simp)] at hst
              have HZ := Lib.hid hst
              have hq1 : ((q.length : Int) + 1 + 1 == 1) = false := by simp; omega
              clear hst
              go_wp2_with (fail)
              go_roundw
              case rel => exact ⟨k + 1, false, d :: q, by simp at hkl ⊢; omega, by simp, rfl, HZ, HB⟩
              case measure => simp [strLenG, ByteArray.size]
        have hc47 := u8_ne (n := 47) (by omega) h47
        by_cases h92 : c = 92
        · subst h92
          cases q with
          | nil =>
            have HZ := Lib.hid (HE.out.trans loopA_back0)
            have HK := Lib.hid (show (k : Int) = (s.length : Int) - 1 by simp at hkl; omega)
            go_wp2_with (fail)
            go_ret2
            exact ⟨by rw [HZ.out]; show _ = Ending.returned (.tuple #[.int .i64 (k : Int), .int .i64 20]); rw [HK.out]; rfl, HB.out⟩
          | cons d q =>
            have hst := HE.out.trans loopA_back
            have hat2 : IntKind.i64.wrap ((s.length : Int) - ((q.length : Int) + 1 + 1)) = (k : Int) := by
              simp at hkl
              rw [show (s.length : Int) - ((q.length : Int) + 1 + 1) = k by omega]
              exact IntWalk.i64_in _ (by omega)
            have hq1 : ((q.length : Int) + 1 + 1 == 1) = false := by simp; omega
            by_cases hd : d = 47
            · rw [if_pos hd] at hst
              have HZ := Lib.hid hst
              subst hd
              clear hst
              go_wp2_with (fail)
              go_ret2
              exact ⟨by rw [HZ.out]; rfl, HB.out⟩
            · rw [if_neg hd] at hst
              have HZ := Lib.hid hst
              have hd47 := u8_ne (n := 47) (by omega) hd
              clear hst hd
              go_wp2_with (fail)
              go_roundw
              case rel => exact ⟨k + 2, true, q, by simp at hkl ⊢; omega, by simp, rfl, HZ, HB⟩
              case measure => simp [strLenG, ByteArray.size]; omega
        have hc92 := u8_ne (n := 92) (by omega) h92
        by_cases h91 : c = 91
        · subst h91
          have hset := HSET.out q wr (by simp at hkl ⊢; omega)
          cases hcl : closeP (91 :: q) with
          | none =>
            have HZ := Lib.hid (HE.out.trans (loopA_set_none hcl))
            have HS := Lib.hid hset
            have HCL := Lib.hid hcl
            clear hset hcl
            go_wp2_with (fail)
            refine HS.out.mono ?_
            rintro e w2 ⟨_, h2, hw2⟩
            obtain ⟨a1, a2, rfl⟩ := h2 HCL.out
            go_wp2_with (fail)
            go_ret2
            exact ⟨by rw [HZ.out]; rfl, HB.out.trans (hw2.mono HB.out.size)⟩
          | some e =>
            have HZ := Lib.hid (HE.out.trans (loopA_set_some hcl))
            have HS := Lib.hid hset
            have HCL := Lib.hid hcl
            have hel : e < (91 :: q).length ∧ 1 ≤ e := by
              have h1 : setFrom (91 :: q) ≤ e ∧ e < setFrom (91 :: q) + ((91 :: q).drop (setFrom (91 :: q))).length ∧ e ≠ setFrom (91 :: q) ∧ ((91 :: q).drop (setFrom (91 :: q))).getD (e - setFrom (91 :: q)) 0 = 93 := closeF_le _ _ _ _ _ (Nat.le_refl _) hcl
              obtain ⟨h1, h2, _⟩ := h1
              have h3 : 1 ≤ setFrom (91 :: q) := by unfold setFrom; split <;> omega
              simp only [List.length_drop] at h2
              omega
            clear hset hcl
            generalize hrr : ((91 :: q : List UInt8).drop (e + 1)) = rr at *
            have hrl : k + e + 1 + rr.length = s.length := by rw [← hrr]; simp at hel ⊢; omega
            generalize ((91 :: q : List UInt8).take e).drop 1 = ii at *
            go_wp2_with (fail)
            refine HS.out.mono ?_
            rintro ee w2 ⟨h2, _, hw2⟩
            obtain rfl := h2 e HCL.out
            have HB2 := Lib.hid (HB.out.trans (hw2.mono HB.out.size))
            have HRR := Lib.hid hrr
            clear hw2 h2 hrr
            go_wp2_with (fail)
            go_roundw
            case rel => exact ⟨k + e + 1, true, rr, hrl, by rw [← HRR.out]; rfl, rfl, HZ, HB2⟩
            case measure =>
              have hq := HRR.out
              rw [List.drop_succ_cons] at hq
              rw [hq]; simp [strLenG, ByteArray.size]; omega
        have hc91 := u8_ne (n := 91) (by omega) h91
        have HZ := Lib.hid (HE.out.trans (loopA_one h47 h92 h91))
        clear h47 h92 h91
        go_wp2_with (fail)
        go_roundw
        case rel => exact ⟨k + 1, true, q, by omega, by simp, rfl, HZ, HB⟩
        case measure => simp [strLenG, ByteArray.size]

theorem Check_all (s : List UInt8) (w : World) (hT : Tabs w) :
    Calls Tryd.prog 12 #[.string ⟨s.toArray⟩] w (Ret w (.tuple #[.int .i64 (checkP 400 s).1, .int .i64 (checkP 400 s).2])) := by
  by_cases h0 : s = []
  · subst h0
    have HC := Lib.hid (checkP_long (m := 400) (s := []) (.inl rfl))
    go_enter Tryd.func12, Tryd.ntmps12
    go_wp2_with (fail)
    go_ret2
    exact ⟨by rw [HC.out]; rfl, Below.refl _ _⟩
  by_cases h4 : 400 < s.length
  · have HC := Lib.hid (checkP_long (m := 400) (s := s) (.inr h4))
    have hse : s.isEmpty = false := by cases s; exact absurd rfl h0; rfl
    have h4' : decide ((400 : Int) < (s.length : Int)) = true := by simp; omega
    clear h0 h4
    go_enter Tryd.func12, Tryd.ntmps12
    go_wp2_with (fail)
    go_ret2
    exact ⟨by rw [HC.out]; rfl, Below.refl _ _⟩
  exact Check_main s w hT h0 (by omega)
theorem Check_any (s : List UInt8) (w : World) (hT : Tabs w) (_ : s.length ≤ 9223372036854775807) :
    Calls Tryd.prog 12 #[.string ⟨s.toArray⟩] w (Ret w (.tuple #[.int .i64 (checkP 400 s).1, .int .i64 (checkP 400 s).2])) := Check_all s w hT
end Go.Proofs.YtgppfcaghjbjmaaDoor
