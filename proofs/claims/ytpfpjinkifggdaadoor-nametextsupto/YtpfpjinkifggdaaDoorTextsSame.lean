/- hawserref01.Texts at two slices that read alike. -/
import Derived.Test.YtpfpjinkifggdaaDoorWords
import Derived.Deep.QuietTactic
import Derived.BigQuiet
namespace Go.Proofs.YtpfpjinkifggdaaDoor
open Go.RowKit

theorem Texts_same (A B : Option Addr) (ca cb : Nat) (l : List (List UInt8)) (w : World) (ha : Reads w 1 A l.length (strs l)) (hb : Reads w 1 B l.length (strs l)) (hl : l.length ≤ 9223372036854775806) :
    Calls Tryd.prog 26 #[.slice A l.length ca, .slice B l.length cb] w (Ret w (.bool true)) := by
  go_enter Tryd.func26, Tryd.ntmps26
  go_wp2_with (fail)
  go_loopw [5] (fun t5 W => ∃ k : Nat, k ≤ l.length ∧ t5 = .int .i64 k ∧ Hid (Below w.heap.size w W)) (fun t5 _ => l.length - (intOf t5).toNat)
  case atStart => exact ⟨0, by omega, rfl, Lib.hid (Below.refl _ _)⟩
  case round =>
    obtain ⟨k, hk, rfl, HB⟩ := hrel
    have hbel := HB.out
    have i0 : (0 : Int) ≤ k := by omega
    by_cases hlt : k < l.length
    · obtain ⟨ad, rfl, cA⟩ := (ha.below hbel).str_at hlt
      obtain ⟨bd, rfl, cB⟩ := (hb.below hbel).str_at hlt
      have i1 : (k : Int) < l.length := by omega
      generalize l[k] = s at *
      clear hbel
      go_wp2_with (fail)
      go_quiet (fail)
      go_wp2_with (fail)
      go_roundw
      case rel => exact ⟨k + 1, by omega, by go_num, Lib.hid (below_drewN HB.out _)⟩
      case measure => simp [intOf]; omega
    · obtain rfl : k = l.length := by omega
      clear hbel
      go_wp2_with (fail)
      go_ret
      exact ⟨rfl, HB.out⟩
end Go.Proofs.YtpfpjinkifggdaaDoor
