import Derived.Test.YtfddhhaecfjepaaHashCrc
import Derived.Test.YtfddhhaecfjepaaPlain05
namespace Go.Proofs.Ytfddhhaecfjepaa
open Go.RowKit Plain

set_option maxHeartbeats 400000 in
theorem four_any (n : Nat) (w : World) (h1 : n < 4294967296) :
    Calls Try.prog 20 #[.int .u32 n] w (Ret w (.string ⟨(four n).toArray⟩)) := by
  have hk := fun w xs n cap hn m => run_convert_laid (P := Try.prog) w 26 5 9 Try.underlying26 Try.underlying5 Try.underlying9 xs n cap hn m
  have hc := hk w [n / 16777216, n / 65536 % 256, n / 256 % 256, n % 256] 4 4 rfl (0, 0)
  simp only [List.map_cons, List.map_nil] at hc
  clear hk
  go_enter Try.func20, Try.ntmps20
  go_wp2_with (fail)
  go_ret
  exact ⟨rfl, (Below.refl _ _).alloc (Nat.le_refl _) _⟩

set_option maxHeartbeats 400000 in
theorem four_ref (n : Nat) (w : World) (h1 : n < 4294967296) :
    Calls Try.prog 27 #[.int .u32 n] w (Ret w (.string ⟨(four n).toArray⟩)) := by
  have hk := fun w xs n cap hn m => run_convert_laid (P := Try.prog) w 26 5 9 Try.underlying26 Try.underlying5 Try.underlying9 xs n cap hn m
  have hc := hk w [n / 16777216, n / 65536 % 256, n / 256 % 256, n % 256] 4 4 rfl (0, 0)
  simp only [List.map_cons, List.map_nil] at hc
  clear hk
  go_enter Try.func27, Try.ntmps27
  go_wp2_with (fail)
  go_ret
  exact ⟨rfl, (Below.refl _ _).alloc (Nat.le_refl _) _⟩

set_option maxHeartbeats 400000 in
theorem number_any (s : List UInt8) (w : World) (h : 4 ≤ s.length) :
    Calls Try.prog 22 #[.string ⟨s.toArray⟩] w (Ret w (.int .u32 (num s : Nat))) := by
  obtain ⟨a, b, c, d, r, rfl⟩ := four_cases h
  have h0 : 0 < (a :: b :: c :: d :: r).length := by omega
  have h1 : (1 : Int) < (a :: b :: c :: d :: r).length := by omega
  have h2 : (2 : Int) < (a :: b :: c :: d :: r).length := by omega
  have h3 : (3 : Int) < (a :: b :: c :: d :: r).length := by omega
  have ha : (a.toNat : Int) < 256 := by have := a.toNat_lt; omega
  have hb : (b.toNat : Int) < 256 := by have := b.toNat_lt; omega
  have hc : (c.toNat : Int) < 256 := by have := c.toNat_lt; omega
  have hd : (d.toNat : Int) < 256 := by have := d.toNat_lt; omega
  have E := num_go a.toNat b.toNat c.toNat d.toNat (by omega) (by omega) (by omega) (by omega)
  go_enter Try.func22, Try.ntmps22
  go_wp2_with (fail)
  refine wp_region_below (by kernel_rfl) (by kernel_rfl) ?_
  repeat (go_big_quiet_step (fail))
  refine wpQuiet_nil ?_
  intro W1 hW1
  go_wp2_with (fail)
  go_ret
  exact ⟨rfl, hW1⟩

theorem num_drop {s : List UInt8} {i : Nat} (h0 : i < s.length) (n1 : i + 1 < s.length) (n2 : i + 2 < s.length) (n3 : i + 3 < s.length) :
    num (s.drop i) = s[i].toNat * 16777216 + s[i + 1].toNat * 65536 + s[i + 2].toNat * 256 + s[i + 3].toNat := by
  rw [List.drop_eq_getElem_cons h0, List.drop_eq_getElem_cons n1, List.drop_eq_getElem_cons n2, List.drop_eq_getElem_cons n3]; rfl

set_option maxHeartbeats 400000 in
theorem number_ref (s : List UInt8) (i : Nat) (w : World) (h : i + 4 ≤ s.length) (hs : s.length ≤ 9223372036854775807) :
    Calls Try.prog 23 #[.string ⟨s.toArray⟩, .int .i64 i] w (Ret w (.int .u32 (num (s.drop i) : Nat))) := by
  have h0 : i < s.length := by omega
  have h1 : (i : Int) + 1 < s.length := by omega
  have h2 : (i : Int) + 2 < s.length := by omega
  have h3 : (i : Int) + 3 < s.length := by omega
  have k1 : IntKind.i64.wrap ((i : Int) + 1) = (i : Int) + 1 := IntWalk.i64_in _ (by omega)
  have k2 : IntKind.i64.wrap ((i : Int) + 2) = (i : Int) + 2 := IntWalk.i64_in _ (by omega)
  have k3 : IntKind.i64.wrap ((i : Int) + 3) = (i : Int) + 3 := IntWalk.i64_in _ (by omega)
  have z1 : (0 : Int) ≤ (i : Int) + 1 := by omega
  have z2 : (0 : Int) ≤ (i : Int) + 2 := by omega
  have z3 : (0 : Int) ≤ (i : Int) + 3 := by omega
  have E := Lib.hid (num_drop h0 (by omega) (by omega) (by omega))
  have ha : (s[i].toNat : Int) < 256 := by have := s[i].toNat_lt; omega
  have hb : (s[i + 1].toNat : Int) < 256 := by have := s[i + 1].toNat_lt; omega
  have hc : (s[i + 2].toNat : Int) < 256 := by have := s[i + 2].toNat_lt; omega
  have hd : (s[i + 3].toNat : Int) < 256 := by have := s[i + 3].toNat_lt; omega
  go_enter Try.func23, Try.ntmps23
  go_wp2_with (fail)
  refine wp_region_below (by kernel_rfl) (by kernel_rfl) ?_
  repeat (go_big_quiet_step (fail))
  refine wpQuiet_nil ?_
  intro W1 hW1
  go_wp2_with (fail)
  go_ret
  refine ⟨?_, hW1⟩
  rw [E.out]
  simp only [Array.getD_eq_getD_getElem?, List.getElem?_toArray, List.getElem?_cons_succ, List.getElem?_cons_zero, Option.getD_some]
  exact ret_int (by omega)
end Go.Proofs.Ytfddhhaecfjepaa
