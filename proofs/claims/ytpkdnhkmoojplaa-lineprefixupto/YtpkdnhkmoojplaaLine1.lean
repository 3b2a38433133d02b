/- Frames of messages: what line.More, line.Pack and the document's answer. -/
import Derived.Test.YtpkdnhkmoojplaaHashCrc
import Derived.Test.YtpkdnhkmoojplaaHashCrcRef
import Derived.Test.YtpkdnhkmoojplaaPlain15
import Derived.Test.YtpkdnhkmoojplaaWords
import Derived.Test.YtpkdnhkmoojplaaBuilder
namespace Go.Proofs.Ytpkdnhkmoojplaa
open Go.RowKit Plain

set_option maxHeartbeats 400000 in
theorem four_any (n : Nat) (w : World) (h1 : n < 4294967296) :
    Calls Try.prog 19 #[.int .u32 n] w (Ret w (.string ⟨(four n).toArray⟩)) := by
  have hk := fun w xs n cap hn m => run_convert_laid (P := Try.prog) w 43 5 9 Try.underlying43 Try.underlying5 Try.underlying9 xs n cap hn m
  have hc := hk w [n / 16777216, n / 65536 % 256, n / 256 % 256, n % 256] 4 4 rfl (0, 0)
  simp only [List.map_cons, List.map_nil] at hc
  clear hk
  go_enter Try.func19, Try.ntmps19
  go_wp2_with (fail)
  go_ret
  exact ⟨rfl, (Below.refl _ _).alloc (Nat.le_refl _) _⟩

set_option maxHeartbeats 400000 in
theorem four_ref (n : Nat) (w : World) (h1 : n < 4294967296) :
    Calls Try.prog 21 #[.int .u32 n] w (Ret w (.string ⟨(four n).toArray⟩)) := by
  have hk := fun w xs n cap hn m => run_convert_laid (P := Try.prog) w 43 5 9 Try.underlying43 Try.underlying5 Try.underlying9 xs n cap hn m
  have hc := hk w [n / 16777216, n / 65536 % 256, n / 256 % 256, n % 256] 4 4 rfl (0, 0)
  simp only [List.map_cons, List.map_nil] at hc
  clear hk
  go_enter Try.func21, Try.ntmps21
  go_wp2_with (fail)
  go_ret
  exact ⟨rfl, (Below.refl _ _).alloc (Nat.le_refl _) _⟩


set_option maxHeartbeats 400000 in
theorem More_any (n : Nat) (p : List UInt8) (w : World) (hp : p.length ≤ 1048576) (hn : n < 4294967296) :
    Calls Try.prog 14 #[.int .i64 n, .string ⟨p.toArray⟩] w (Ret w (.tuple #[.string ⟨(frame n p).toArray⟩, .int .i64 0])) := by
  have hl1 := crc_lt (four p.length)
  have hl2 := crc_lt (four n ++ p)
  have e1 : (four p.length).length = 4 := rfl
  have e2 : (four n).length = 4 := rfl
  have e3 : (four (crc (four p.length))).length = 4 := rfl
  have e4 : (four (crc (four n ++ p))).length = 4 := rfl
  go_enter Try.func14, Try.ntmps14
  go_wp2_with (fail)
  refine (Ret.quiet (Below.refl _ _) (four_any _ _ (by omega))).mono ?_
  rintro e w1 ⟨rfl, hb1⟩
  go_wp2_with (fail)
  refine (Ret.quiet (hb1) (Crc_any _ _ (by omega))).mono ?_
  rintro e w2 ⟨rfl, hb2⟩
  go_wp2_with (fail)
  refine (Ret.quiet (hb2) (four_any _ _ hl1)).mono ?_
  rintro e w3 ⟨rfl, hb3⟩
  go_wp2_with (fail)
  refine (Ret.quiet (hb3) (four_any n _ hn)).mono ?_
  rintro e w4 ⟨rfl, hb4⟩
  go_wp2_with (fail)
  refine (Ret.quiet (hb4) (Crc_any _ _ (by simp; omega))).mono ?_
  rintro e w5 ⟨rfl, hb5⟩
  go_wp2_with (fail)
  refine (Ret.quiet (hb5) (four_any _ _ hl2)).mono ?_
  rintro e w6 ⟨rfl, hb6⟩
  go_wp2_with (fail)
  go_ret2
  refine ⟨?_, hb6⟩
  simp [frame]

set_option maxHeartbeats 400000 in
theorem More_big (n : Int) (p : List UInt8) (w : World) (hs : p.length ≤ 9223372036854775807) (h : 1048576 < p.length ∨ n < 0 ∨ 4294967295 < n) :
    Calls Try.prog 14 #[.int .i64 n, .string ⟨p.toArray⟩] w (Ret w (.tuple #[.string ⟨#[]⟩, .int .i64 32])) := by
  by_cases h1 : 1048576 < p.length
  · go_enter Try.func14, Try.ntmps14
    go_wp2_with (fail)
    go_ret2
    exact ⟨rfl, Below.refl _ _⟩
  by_cases h2 : n < 0
  · have h1' : (p.length : Int) ≤ 1048576 := by omega
    go_enter Try.func14, Try.ntmps14
    go_wp2_with (fail)
    go_ret2
    exact ⟨rfl, Below.refl _ _⟩
  have h3 : 4294967295 < n := by omega
  have h1' : (p.length : Int) ≤ 1048576 := by omega
  have h2' : 0 ≤ n := by omega
  clear h
  go_enter Try.func14, Try.ntmps14
  go_wp2_with (fail)
  go_ret2
  exact ⟨rfl, Below.refl _ _⟩

set_option maxHeartbeats 400000 in
theorem More_ref (n : Nat) (p : List UInt8) (w : World) (hp : p.length ≤ 1048576) (hn : n < 4294967296) :
    Calls Try.prog 15 #[.int .i64 n, .string ⟨p.toArray⟩] w (Ret w (.tuple #[.string ⟨(frame n p).toArray⟩, .int .i64 0])) := by
  have hl1 := crc_lt (four p.length)
  have hl2 := crc_lt (four n ++ p)
  have e1 : (four p.length).length = 4 := rfl
  have e2 : (four n).length = 4 := rfl
  have e3 : (four (crc (four p.length))).length = 4 := rfl
  have e4 : (four (crc (four n ++ p))).length = 4 := rfl
  go_enter Try.func15, Try.ntmps15
  go_wp2_with (fail)
  refine (Ret.quiet (Below.refl _ _) (four_ref _ _ (by omega))).mono ?_
  rintro e w1 ⟨rfl, hb1⟩
  go_wp2_with (fail)
  refine (Ret.quiet (hb1) (Crc_ref _ _ (by omega))).mono ?_
  rintro e w2 ⟨rfl, hb2⟩
  go_wp2_with (fail)
  refine (Ret.quiet (hb2) (four_ref _ _ hl1)).mono ?_
  rintro e w3 ⟨rfl, hb3⟩
  go_wp2_with (fail)
  refine (Ret.quiet (hb3) (four_ref n _ hn)).mono ?_
  rintro e w4 ⟨rfl, hb4⟩
  go_wp2_with (fail)
  refine (Ret.quiet (hb4) (Crc_ref _ _ (by simp; omega))).mono ?_
  rintro e w5 ⟨rfl, hb5⟩
  go_wp2_with (fail)
  refine (Ret.quiet (hb5) (four_ref _ _ hl2)).mono ?_
  rintro e w6 ⟨rfl, hb6⟩
  go_wp2_with (fail)
  go_ret2
  refine ⟨?_, hb6⟩
  simp [frame]

set_option maxHeartbeats 400000 in
theorem More_bigref (n : Int) (p : List UInt8) (w : World) (hs : p.length ≤ 9223372036854775807) (h : 1048576 < p.length ∨ n < 0 ∨ 4294967295 < n) :
    Calls Try.prog 15 #[.int .i64 n, .string ⟨p.toArray⟩] w (Ret w (.tuple #[.string ⟨#[]⟩, .int .i64 32])) := by
  by_cases h1 : 1048576 < p.length
  · go_enter Try.func15, Try.ntmps15
    go_wp2_with (fail)
    go_ret2
    exact ⟨rfl, Below.refl _ _⟩
  by_cases h2 : n < 0
  · have h1' : (p.length : Int) ≤ 1048576 := by omega
    go_enter Try.func15, Try.ntmps15
    go_wp2_with (fail)
    go_ret2
    exact ⟨rfl, Below.refl _ _⟩
  have h3 : 4294967295 < n := by omega
  have h1' : (p.length : Int) ≤ 1048576 := by omega
  have h2' : 0 ≤ n := by omega
  clear h
  go_enter Try.func15, Try.ntmps15
  go_wp2_with (fail)
  go_ret2
  exact ⟨rfl, Below.refl _ _⟩

end Go.Proofs.Ytpkdnhkmoojplaa
