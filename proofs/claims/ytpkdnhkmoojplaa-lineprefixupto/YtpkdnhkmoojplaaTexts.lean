/- hawserref01.Texts: are two lists of texts the same? -/
import Derived.Test.YtpkdnhkmoojplaaWords
namespace Go.Proofs.Ytpkdnhkmoojplaa
open Go.RowKit

set_option maxHeartbeats 400000 in
theorem Texts_any (A B : Option Addr) (c d : Nat) (l m : List (List UInt8)) (w : World) (hl : Reads w 1 A l.length (strs l)) (hm : Reads w 1 B m.length (strs m)) (h63 : l.length ≤ 9223372036854775807) (h63' : m.length ≤ 9223372036854775807) :
    Calls Try.prog 13 #[.slice A l.length c, .slice B m.length d] w (Ret w (.bool (decide (l = m)))) := by
  by_cases hlen : l.length = m.length
  · go_enter Try.func13, Try.ntmps13
    rw [← hlen]
    go_wp2_with (fail)
    go_loopw [5] (fun t5 wr => ∃ k : Nat, k ≤ l.length ∧ t5 = .int .i64 k ∧ l.take k = m.take k ∧ Below w.heap.size w wr) (fun t5 _ => l.length - (intOf t5).toNat)
    case atStart => exact ⟨0, by omega, rfl, rfl, Below.refl _ _⟩
    case round =>
      obtain ⟨k, hk, rfl, ht, hb⟩ := hrel
      have HT := Lib.hid ht
      clear ht
      by_cases hlt : k < l.length
      · have hltm : k < m.length := by omega
        obtain ⟨a, rfl, ca⟩ := (hl.below hb).str_at hlt
        obtain ⟨b, rfl, cb⟩ := (hm.below hb).str_at hltm
        generalize hs : l[k] = s at ca
        generalize ht : m[k] = t at cb
        have HS := Lib.hid hs
        have HTT := Lib.hid ht
        have hi : (k : Int) < l.length := by omega
        have HL := Lib.hid hlen
        clear hs ht hlen
        go_wp2_with (fail)
        go_quiet (fail)
        go_wp2_with (fail)
        · have hne : (!s == t) = true := by assumption
          go_ret
          refine ⟨?_, below_drewN hb _⟩
          rw [decide_eq_false (fun e => by subst e; rw [← HS.out, ← HTT.out] at hne; simp at hne)]
          rfl
        · have he : (!s == t) = false := by assumption
          go_roundw
          case rel => exact ⟨k + 1, by omega, by go_num, take_next hlt hltm HT.out (by rw [HS.out, HTT.out]; simpa using he), below_drewN hb _⟩
          case measure => simp [intOf]; omega
      · obtain rfl : k = l.length := by omega
        go_wp2_with (fail)
        go_ret
        refine ⟨?_, hb⟩
        have h := HT.out
        rw [List.take_of_length_le (Nat.le_refl _), List.take_of_length_le (by omega)] at h
        rw [decide_eq_true h]
        rfl
  · have hB : ((l.length : Int) != (m.length : Int)) = true := by simpa using (by omega : (l.length : Int) ≠ m.length)
    go_enter Try.func13, Try.ntmps13
    go_wp2_with (fail)
    go_ret
    refine ⟨?_, Below.refl _ _⟩
    rw [decide_eq_false (fun e => hlen (by rw [e]))]
    rfl
end Go.Proofs.Ytpkdnhkmoojplaa
