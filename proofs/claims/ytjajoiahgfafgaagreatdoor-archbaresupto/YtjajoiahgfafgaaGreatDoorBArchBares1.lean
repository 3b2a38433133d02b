/- Texts joined: OwnM, PlainSha, WholeRows, Sha1. -/
import Derived.Test.YtjajoiahgfafgaaGreatDoorBCodeBaseC1
import Derived.OwnWalk
import Derived.ArgAppend
import Derived.Laws.BitsAllLaws
import Derived.Laws.BitsLemmas
import Derived.Deep.MidRow
import Derived.RegionTactic
import Derived.BigRegion
import Derived.Deep.DeepCutAuto
import Derived.Deep.QuietTactic
import Derived.Deep.RegionWith
import Derived.BigQuiet
set_option linter.unusedSimpArgs false
set_option linter.unusedVariables false

/- A row of the call's own that came of a conversion: its mark stands behind its cells; append onto it. -/
section
namespace Go.Proofs.YtjajoiahgfafgaaGreatDoor
open Go.RowKit

/-- v is nil, or a row of the call's own (with the mark of a conversion, or with none) that begins with xs. -/
def OwnM (w : World) (base : Nat) (e : TypeId) (v : Value) (xs : List Value) : Prop :=
  (v = .slice none 0 0 ∧ xs = []) ∨ ∃ g cap cur fz, v = .slice (some ⟨g, 0, none⟩) xs.length cap ∧ base ≤ g ∧ w.heap[g]? = some (.cells cur e fz) ∧ xs.length ≤ cap ∧ cap ≤ maxLen ∧ cur.size = cap ∧ cur.toList.take xs.length = xs ∧ (fz = (0, 0) ∨ fz = (cap, cap + 1))
section
variable {w w' : World} {base : Nat} {e : TypeId} {v : Value} {xs : List Value}
theorem OwnM.of_own {n : Nat} (h : w.ownsRow base e 1 v n xs) : OwnM w base e v xs := by
  have hn := h.1
  rcases h.2 with ⟨rfl, h0⟩ | ⟨g, cap, cur, rfl, hb, hg, hnc, hcm, hcs, ht⟩
  · exact .inl ⟨rfl, List.eq_nil_of_length_eq_zero (by omega)⟩
  · exact .inr ⟨g, cap, cur, (0, 0), by rw [show xs.length = n by omega], hb, hg, by omega, hcm, by omega, by rw [show xs.length = n * 1 by omega]; exact ht, .inl rfl⟩
theorem OwnM.lt (h : OwnM w base e v xs) : ∀ k, v.ownBlock = some k → base ≤ k ∧ k < w.heap.size := by
  intro k hk
  rcases h with ⟨rfl, _⟩ | ⟨g, cap, cur, fz, rfl, hb, hg, _⟩
  · cases hk
  · simp only [Value.ownBlock, Option.some.injEq] at hk
    subst hk
    exact ⟨hb, (Array.getElem?_eq_some_iff.1 hg).1⟩
theorem OwnM.alloc (h : OwnM w base e v xs) (o : Obj) : OwnM (w.alloc o) base e v xs :=
  h.imp id fun ⟨g, cap, cur, fz, hv, hb, hg, hr⟩ => ⟨g, cap, cur, fz, hv, hb, by rw [Below.heap_alloc _ _ _ (Array.getElem?_eq_some_iff.1 hg).1]; exact hg, hr⟩
theorem OwnM.below (h : OwnM w base e v xs) (hb : Below w.heap.size w w') : OwnM w' base e v xs :=
  h.imp id fun ⟨g, cap, cur, fz, hv, hbg, hg, hr⟩ => ⟨g, cap, cur, fz, hv, hbg, by rw [hb.block g (Array.getElem?_eq_some_iff.1 hg).1]; exact hg, hr⟩
theorem OwnM.form (h : OwnM w base e v xs) : ∃ A c, v = .slice A xs.length c ∧ xs.length ≤ c ∧ c ≤ maxLen := by
  rcases h with ⟨rfl, rfl⟩ | ⟨g, cap, cur, fz, rfl, hb, hg, hnc, hcm, _⟩
  · exact ⟨none, 0, rfl, by simp, by unfold maxLen; omega⟩
  · exact ⟨_, _, rfl, hnc, hcm⟩
theorem OwnM.back {P : Program} {l : List UInt8} (src dst : TypeId) (hs : P.underlying src = some (.slice e)) (he : P.underlying e = some (.int .u8)) (hd : P.underlying dst = some .string) (h : OwnM w base e v (bytesV l)) :
    (convert src dst v).run P w = .ok (.string ⟨l.toArray⟩) w := by
  rcases h with ⟨rfl, hx⟩ | ⟨g, cap, cur, fz, rfl, hb, hg, hnc, hcm, hcs, ht, _⟩
  · have : l = [] := List.eq_nil_of_length_eq_zero (by have := congrArg List.length hx; simpa [bytesV_length] using this)
    subst this
    exact run_convert_bytes_nil w src e hs he 0 0 dst hd
  · refine conv_back w src dst e hs he hd l g _ cap (bytesV_length l) cur fz hg (fun j hj => ?_)
    have h1 : (bytesV l)[j]? = some (.int .u8 (l[j].toNat : Int)) := by simp [bytesV, hj]
    rw [← ht, List.getElem?_take] at h1
    split at h1
    · simpa using h1
    · cases h1

/-- '[]byte(s)' -/
theorem conv_bytes_m {P : Program} (w : World) (src dst e : TypeId) (hs : P.underlying src = some .string) (hd : P.underlying dst = some (.slice e)) (he : P.underlying e = some (.int .u8)) (l : List UInt8) (hl : l.length ≤ maxLen) :
    ∃ cap C, (convert src dst (.string ⟨l.toArray⟩)).run P w = .ok (.slice (some ⟨w.heap.size, 0, none⟩) l.length cap) (w.alloc (.cells C e (cap, cap + 1))).drew ∧
      OwnM (w.alloc (.cells C e (cap, cap + 1))).drew w.heap.size e (.slice (some ⟨w.heap.size, 0, none⟩) l.length cap) (bytesV l) := by
  have h := run_bytes_of_string (P := P) w src dst e ⟨l.toArray⟩ hs hd he
  have hsz : (ByteArray.mk l.toArray).size = l.length := by simp [ByteArray.size]
  have hge := grownCap_ge w (ByteArray.mk l.toArray).size 0 e
  have hle := grownCap_le_maxLen w (ByteArray.mk l.toArray).size 0 e (by rw [hsz]; exact hl)
  rw [hsz] at h hge hle
  have hsize : (bytesRow ⟨l.toArray⟩ (grownCap w l.length 0 e)).size = grownCap w l.length 0 e := by simp [bytesRow, hsz]; omega
  rw [hsize] at h
  refine ⟨_, _, h, .inr ⟨w.heap.size, _, _, _, by rw [bytesV_length], Nat.le_refl _, heap_alloc_new w _, by rw [bytesV_length]; exact hge, hle, hsize, ?_, .inr rfl⟩⟩
  rw [bytesV_length]
  unfold bytesRow
  rw [Array.toList_append, List.take_append_of_le_length (by simp), List.take_of_length_le (by simp)]
  simp [bytesV]

theorem frozen_row' {g cap j : Nat} {C : Array Value} {fz : Nat × Nat} (hb : w.heap[g]? = some (.cells C e fz)) (hfz : fz = (0, 0) ∨ fz = (cap, cap + 1)) (h : j < cap) : w.frozen? ⟨g, j, none⟩ = false := by
  unfold World.frozen?
  rw [hb]
  rcases hfz with rfl | rfl <;> simp <;> omega

/-- append of one cell -/
theorem wpList_append_m {P : Program} {ops : Array Oper} {rest : List Oper} {o : Oper} {a : Act} {Q : Exit → Act → World → Prop} (hgd : o.guard = none) (s x : Operand) (t : TypeId)
    (ho : o.op = .call { callee := .builtin .append, args := #[s, x], argTypes := #[t, t] })
    (i : TypeInfo) (z : Value) (bytes : Nat) (ht : P.underlying t = some (.slice e)) (hi : P.info? e = some i) (hz : i.zero = some z)
    (hsize : i.size = 1) (hby : i.bytes = bytes) (hzs : z.cells.size = 1)
    (hs : a.eval s = v) (hown : OwnM w base e v xs) (u : Value)
    (ad : Addr) (c : Nat) (hx : a.eval x = .slice (some ad) 1 c) (hnew : w.cell? ad = some u) (h1 : u.oneCell' = true)
    (h63 : xs.length + 1 ≤ maxLen) (hbytes : (xs.length + 1) * bytes ≤ 140737488355328) (hbase : base ≤ w.heap.size)
    (h : ∀ v' w', OwnM w' base e v' (xs ++ [u]) → w.grownBy w' v.ownBlock → wpList P ops Q rest (a.put o.dst v') w') : wpList P ops Q (o :: rest) a w := by
  have hnews : ∀ j v, [u][j]? = some v → w.cell? (ad.add j) = some v := by
    intro j v hj
    match j, hj with
    | 0, hj => simp at hj; subst hj; simpa [Addr.add] using hnew
  rcases hown with ⟨rfl, rfl⟩ | ⟨g, cap, cur, fz, rfl, hbg, hg, hnc, hcm, hcs, htk, hfz⟩
  · exact wpList_append_own w hgd s x t ho base e i z 1 bytes ht hi hz hsize hby hzs (by omega) _ _ _ hs (World.ownsRow_nil _ _ _ _) ad 1 c [u] hx rfl hnews (one_oneCell h1) (by simpa using h63) (by simpa using hbytes) hbase
      fun v' w' h2 h3 _ => h v' w' (OwnM.of_own h2) h3
  · have hcell : ∀ j y, xs[j]? = some y → w.cell? ⟨g, 0 + j, none⟩ = some y := by
      intro j y hj
      rw [Nat.zero_add, cell_of_row _ _ _ cur e fz hg]
      rw [← htk, List.getElem?_take] at hj
      split at hj
      · simpa using hj
      · cases hj
    refine wpList_append_arg w hgd s x t ho e i z 1 bytes ht hi hz hsize hby hzs (by omega) g 0 xs.length cap xs hs (by omega) hcell ad 1 c [u] hx rfl hnews (one_oneCell h1) ?_ h63 hbytes ?_ ?_
    · intro hr j hj
      obtain rfl : j = 0 := by simpa using hj
      refine ⟨?_, frozen_row' hg hfz (by omega)⟩
      rw [cell_of_row _ _ _ cur e fz hg]
      simp; omega
    · intro hr
      have hset : w.setCells g (0 + xs.length * 1) [u] = w.setCell ⟨g, xs.length, none⟩ u := by simp [World.setCells]
      rw [hset]
      refine h _ _ (.inr ⟨g, cap, _, fz, by simp, hbg, heap_set hg _ _, by simpa using hr, hcm, by simpa using hcs, ?_, hfz⟩) (gb_set (gb_refl _ _) (.inl rfl) _)
      rw [Array.toList_setIfInBounds, List.length_append, List.length_singleton, List.take_succ_eq_append_getElem (by simp; omega), List.take_set_of_le (Nat.le_refl _), htk]
      simp
    · intro hr v' w' h2 h3
      exact h _ _ (OwnM.of_own (by
        have := h2
        exact ⟨this.1, this.2.imp id fun ⟨g', cap', cur', hv, hb', hrest⟩ => ⟨g', cap', cur', hv, by omega, hrest⟩⟩)) ⟨h3.os, h3.tape, h3.output, h3.size, fun k hk _ => h3.block k hk (by simp)⟩
end
end Go.Proofs.YtjajoiahgfafgaaGreatDoor
end

/- Plain laws of the strong fingerprint: words of 32 bits; no program in sight. -/
section
namespace Go.Proofs.YtjajoiahgfafgaaGreatDoor.Plain

/-- A word of 32 bits as a number of the model. -/
def V (x : UInt32) : Int := (x.toNat : Int)
theorem V_lt (x : UInt32) : 0 ≤ V x ∧ V x < 4294967296 := by have := x.toNat_lt; unfold V; omega
theorem V_inj {x y : UInt32} (h : V x = V y) : x = y := by
  unfold V at h; exact UInt32.toNat_inj.1 (by omega)
theorem V_of (n : Nat) : V (UInt32.ofNat n) = ((n % 4294967296 : Nat) : Int) := by
  unfold V; rw [UInt32.toNat_ofNat']
theorem V_xor (x y : UInt32) : Go.bits .xor .u32 (V x) (V y) = V (x ^^^ y) := by
  unfold V; rw [u32_xor_nat _ _ x.toNat_lt y.toNat_lt, UInt32.toNat_xor]
theorem V_and (x y : UInt32) : Go.bits .and .u32 (V x) (V y) = V (x &&& y) := by
  unfold V; rw [u32_and_nat _ _ x.toNat_lt y.toNat_lt, UInt32.toNat_and]
theorem V_or (x y : UInt32) : Go.bits .or .u32 (V x) (V y) = V (x ||| y) := by
  unfold V; rw [u32_or_nat _ _ x.toNat_lt y.toNat_lt, UInt32.toNat_or]
theorem V_not (x : UInt32) : Go.bits .xor .u32 4294967295 (V x) = V (~~~x) := by
  unfold V
  rw [show (4294967295 : Int) = ((4294967295 : Nat) : Int) by rfl, u32_xor_nat _ _ (by omega) x.toNat_lt]
  congr 1
theorem V_add (x y : UInt32) : (V x + V y) % (4294967296 : Int) = V (x + y) := by
  unfold V; rw [UInt32.toNat_add]; omega
theorem V_sub (x y : UInt32) : (V x - V y) % 4294967296 = V (x - y) := by
  unfold V; rw [UInt32.toNat_sub]; have := x.toNat_lt; have := y.toNat_lt; omega
theorem V_shr (x : UInt32) (n : Nat) (h : n < 32) : V x / 2 ^ n = V (x >>> UInt32.ofNat n) := by
  unfold V
  rw [UInt32.toNat_shiftRight, Nat.shiftRight_eq_div_pow, UInt32.toNat_ofNat']
  rw [show n % 2 ^ 32 % 32 = n by omega]
  push_cast; rfl
theorem V_shl (x : UInt32) (n : Nat) (h : n < 32) : (V x * 2 ^ n) % (4294967296 : Int) = V (x <<< UInt32.ofNat n) := by
  unfold V
  rw [UInt32.toNat_shiftLeft, Nat.shiftLeft_eq, UInt32.toNat_ofNat', show n % 2 ^ 32 % 32 = n by omega, Int.natCast_emod, Int.natCast_mul, Int.natCast_pow]
  rfl

theorem V_shr3 (x : UInt32) : V x / (8 : Int) = V (x >>> (3 : UInt32)) := V_shr x 3 (by omega)
theorem V_shr10 (x : UInt32) : V x / (1024 : Int) = V (x >>> (10 : UInt32)) := V_shr x 10 (by omega)
/-- turned to the right -/
def rotr (x n : UInt32) : UInt32 := x >>> n ||| x <<< (32 - n)

theorem rot_eq (x : UInt32) (n m : Nat) (hn : 1 ≤ n) (hm : m + n = 32) (hm1 : 1 ≤ m) :
    Go.bits .or .u32 (V x * 2 ^ m % 4294967296) (V x / 2 ^ (32 - m)) = V (rotr x (UInt32.ofNat n)) := by
  rw [V_shl x m (by omega), V_shr x (32 - m) (by omega), V_or]
  unfold rotr
  have h1 : (32 : UInt32) - UInt32.ofNat n = UInt32.ofNat m := by
    apply UInt32.toNat_inj.1
    rw [UInt32.toNat_sub, UInt32.toNat_ofNat', UInt32.toNat_ofNat']
    simp
    omega
  rw [h1, UInt32.or_comm, show 32 - m = n by omega]

/-- the eight words -/
structure S8 where
  (a b c d e f g h : UInt32)
deriving DecidableEq

def sig0 (x : UInt32) : UInt32 := rotr x 7 ^^^ rotr x 18 ^^^ x >>> 3
def sig1 (x : UInt32) : UInt32 := rotr x 17 ^^^ rotr x 19 ^^^ x >>> 10
def Sig0 (x : UInt32) : UInt32 := rotr x 2 ^^^ rotr x 13 ^^^ rotr x 22
def Sig1 (x : UInt32) : UInt32 := rotr x 6 ^^^ rotr x 11 ^^^ rotr x 25
def ch (e f g : UInt32) : UInt32 := e &&& f ^^^ ~~~e &&& g
def maj (a b c : UInt32) : UInt32 := a &&& b ^^^ a &&& c ^^^ b &&& c

theorem V_add4 (a b c d : UInt32) : (V a + V b + V c + V d) % 4294967296 = V (a + b + c + d) := by
  rw [← V_add, ← V_add, ← V_add]; omega
theorem V_add3 (a b c : UInt32) : (V a + V b + V c) % 4294967296 = V (a + b + c) := by
  rw [← V_add, ← V_add]; omega
theorem nextW_go (a x c y : UInt32) : (V a + Go.bits .xor .u32 (V (rotr x 7 ^^^ rotr x 18)) (V x / 8) + V c + Go.bits .xor .u32 (V (rotr y 17 ^^^ rotr y 19)) (V y / 1024)) % 4294967296 = V (a + sig0 x + c + sig1 y) := by
  rw [V_shr3, V_shr10, V_xor, V_xor, V_add4]; rfl

def step (v : S8) (k w : UInt32) : S8 :=
  let t := v.h + Sig1 v.e + ch v.e v.f v.g + k + w
  let s := Sig0 v.a + maj v.a v.b v.c
  ⟨t + s, v.a, v.b, v.c, v.d + t, v.e, v.f, v.g⟩
def add8 (v h : S8) : S8 := ⟨v.a + h.a, v.b + h.b, v.c + h.c, v.d + h.d, v.e + h.e, v.f + h.f, v.g + h.g, v.h + h.h⟩

theorem not_form : (if Go.IntKind.u32.signed = true then (-1 : Int) else Go.IntKind.u32.max) = 4294967295 := rfl
def tOf (h e f g k w : UInt32) : UInt32 := h + Sig1 e + ch e f g + k + w
def sOf (a b c : UInt32) : UInt32 := Sig0 a + maj a b c
theorem t_go (h e f g k w : UInt32) : ((V (h + (rotr e 6 ^^^ rotr e 11 ^^^ rotr e 25)) + Go.bits .xor .u32 (V (e &&& f)) (Go.bits .and .u32 (Go.bits .xor .u32 (if Go.IntKind.u32.signed = true then -1 else Go.IntKind.u32.max) (V e)) (V g)) + V k) % 4294967296 + V w) % 4294967296 =
    V (tOf h e f g k w) := by
  unfold tOf
  rw [not_form, V_not, V_and, V_xor, ← V_add (h + Sig1 e + ch e f g + k), ← V_add (h + Sig1 e + ch e f g), ← V_add (h + Sig1 e)]
  unfold Sig1 ch
  omega

/-- the rounds' constants -/
def KK : List UInt32 := [
  0x428a2f98, 0x71374491, 0xb5c0fbcf, 0xe9b5dba5, 0x3956c25b, 0x59f111f1, 0x923f82a4, 0xab1c5ed5,
  0xd807aa98, 0x12835b01, 0x243185be, 0x550c7dc3, 0x72be5d74, 0x80deb1fe, 0x9bdc06a7, 0xc19bf174,
  0xe49b69c1, 0xefbe4786, 0x0fc19dc6, 0x240ca1cc, 0x2de92c6f, 0x4a7484aa, 0x5cb0a9dc, 0x76f988da,
  0x983e5152, 0xa831c66d, 0xb00327c8, 0xbf597fc7, 0xc6e00bf3, 0xd5a79147, 0x06ca6351, 0x14292967,
  0x27b70a85, 0x2e1b2138, 0x4d2c6dfc, 0x53380d13, 0x650a7354, 0x766a0abb, 0x81c2c92e, 0x92722c85,
  0xa2bfe8a1, 0xa81a664b, 0xc24b8b70, 0xc76c51a3, 0xd192e819, 0xd6990624, 0xf40e3585, 0x106aa070,
  0x19a4c116, 0x1e376c08, 0x2748774c, 0x34b0bcb5, 0x391c0cb3, 0x4ed8aa4a, 0x5b9cca4f, 0x682e6ff3,
  0x748f82ee, 0x78a5636f, 0x84c87814, 0x8cc70208, 0x90befffa, 0xa4506ceb, 0xbef9a3f7, 0xc67178f2]
def H0 : S8 := ⟨0x6a09e667, 0xbb67ae85, 0x3c6ef372, 0xa54ff53a, 0x510e527f, 0x9b05688c, 0x1f83d9ab, 0x5be0cd19⟩

/-- four bytes as a word -/
def word (b0 b1 b2 b3 : UInt8) : UInt32 := UInt32.ofNat (b0.toNat * 16777216 + b1.toNat * 65536 + b2.toNat * 256 + b3.toNat)
/-- the i-th word of a block -/
def wordAt (b : List UInt8) (i : Nat) : UInt32 := word (b.getD (4 * i) 0) (b.getD (4 * i + 1) 0) (b.getD (4 * i + 2) 0) (b.getD (4 * i + 3) 0)
/-- one word more -/
def nextW (l : List UInt32) (n : Nat) : UInt32 := l.getD (n - 16) 0 + sig0 (l.getD (n - 15) 0) + l.getD (n - 7) 0 + sig1 (l.getD (n - 2) 0)
/-- the first n words -/
def sched (b : List UInt8) : Nat → List UInt32
  | 0 => []
  | n + 1 => sched b n ++ [if n < 16 then wordAt b n else nextW (sched b n) n]
def runW (w : List UInt32) (h : S8) : Nat → S8
  | 0 => h
  | n + 1 => step (runW w h n) (KK.getD n 0) (w.getD n 0)
def round (h : S8) (b : List UInt8) : S8 := add8 (runW (sched b 64) h 64) h
/-- n blocks -/
def runB : Nat → S8 → List UInt8 → S8
  | 0, h, _ => h
  | n + 1, h, l => runB n (round h (l.take 64)) (l.drop 64)
def bytes4 (x : UInt32) : List UInt8 := [UInt8.ofNat (x.toNat / 16777216), UInt8.ofNat (x.toNat / 65536), UInt8.ofNat (x.toNat / 256), UInt8.ofNat x.toNat]
def out8 (v : S8) : List UInt8 := bytes4 v.a ++ bytes4 v.b ++ bytes4 v.c ++ bytes4 v.d ++ bytes4 v.e ++ bytes4 v.f ++ bytes4 v.g ++ bytes4 v.h
/-- the bits' number, in eight bytes -/
def size8 (n : Nat) : List UInt8 := (List.range 8).map fun i => UInt8.ofNat (n * 8 / 2 ^ (56 - 8 * i))
/-- how many noughts -/
def noughts (n : Nat) : Nat := (119 - n % 64) % 64
def padding (n : Nat) : List UInt8 := 128 :: List.replicate (noughts n) 0 ++ size8 n
def sha (s : List UInt8) : List UInt8 := out8 (runB ((s.length + 72) / 64) H0 (s ++ padding s.length))

theorem shl24 (a b c d : Nat) (_ : a < 256) (hb : b < 256) (hc : c < 256) (hd : d < 256) : (a * 16777216 ||| b * 65536 ||| c * 256 ||| d) = a * 16777216 + b * 65536 + c * 256 + d := by
  have h1 : a * 16777216 ||| b * 65536 = a * 16777216 + b * 65536 := by
    have := Nat.two_pow_add_eq_or_of_lt (i := 24) (b := b * 65536) (by omega) a
    rw [show a * 16777216 = 2 ^ 24 * a by omega]; omega
  have h2 : (a * 16777216 + b * 65536) ||| c * 256 = a * 16777216 + b * 65536 + c * 256 := by
    have := Nat.two_pow_add_eq_or_of_lt (i := 16) (b := c * 256) (by omega) (a * 256 + b)
    rw [show a * 16777216 + b * 65536 = 2 ^ 16 * (a * 256 + b) by omega]; omega
  have h3 : (a * 16777216 + b * 65536 + c * 256) ||| d = a * 16777216 + b * 65536 + c * 256 + d := by
    have := Nat.two_pow_add_eq_or_of_lt (i := 8) (b := d) (by omega) (a * 65536 + b * 256 + c)
    rw [show a * 16777216 + b * 65536 + c * 256 = 2 ^ 8 * (a * 65536 + b * 256 + c) by omega]; omega
  rw [h1, h2, h3]
theorem word_go (a b c d : UInt8) : Go.bits .or .u32 (Go.bits .or .u32 (Go.bits .or .u32 ((a.toNat : Int) % 4294967296 * 16777216 % 4294967296) ((b.toNat : Int) % 4294967296 * 65536 % 4294967296)) ((c.toNat : Int) % 4294967296 * 256 % 4294967296)) ((d.toNat : Int) % 4294967296) = V (word a b c d) := by
  have ha := a.toNat_lt; have hb := b.toNat_lt; have hc := c.toNat_lt; have hd := d.toNat_lt
  have h1 := shl24 a.toNat b.toNat c.toNat d.toNat ha hb hc hd
  have o1 : (a.toNat * 16777216 ||| b.toNat * 65536) < 2 ^ 32 := Nat.or_lt_two_pow (by omega) (by omega)
  have o2 : (a.toNat * 16777216 ||| b.toNat * 65536 ||| c.toNat * 256) < 2 ^ 32 := Nat.or_lt_two_pow o1 (by omega)
  rw [show ((a.toNat : Int) % 4294967296 * 16777216 % 4294967296) = ((a.toNat * 16777216 : Nat) : Int) by omega, show ((b.toNat : Int) % 4294967296 * 65536 % 4294967296) = ((b.toNat * 65536 : Nat) : Int) by omega,
    show ((c.toNat : Int) % 4294967296 * 256 % 4294967296) = ((c.toNat * 256 : Nat) : Int) by omega, show ((d.toNat : Int) % 4294967296) = (d.toNat : Int) by omega,
    u32_or_nat _ _ (by omega) (by omega), u32_or_nat _ _ (by omega) (by omega), u32_or_nat _ _ (by omega) (by omega), h1]
  unfold word
  rw [V_of]; congr 1; omega

theorem wordAt_eq (b : List UInt8) (k : Nat) (h : 4 * k + 3 < b.length) : wordAt b k = word b[4 * k] b[4 * k + 1] b[4 * k + 2] b[4 * k + 3] := by
  unfold wordAt
  simp only [List.getD_eq_getElem?_getD]
  rw [List.getElem?_eq_getElem (by omega), List.getElem?_eq_getElem (by omega), List.getElem?_eq_getElem (by omega), List.getElem?_eq_getElem (by omega)]
  rfl
theorem sched_length (b : List UInt8) (n : Nat) : (sched b n).length = n := by
  induction n with
  | zero => rfl
  | succ n ih => simp [sched, ih]
theorem sched_get (b : List UInt8) {n i : Nat} (h : i < n) (m : Nat) (hm : i < m) : (sched b n).getD i 0 = (sched b m).getD i 0 := by
  have key : ∀ k, (sched b (i + 1 + k)).getD i 0 = (sched b (i + 1)).getD i 0 := by
    intro k
    induction k with
    | zero => rfl
    | succ k ih =>
      rw [← ih, show i + 1 + (k + 1) = (i + 1 + k) + 1 by omega]
      simp only [sched, List.getD_eq_getElem?_getD]
      rw [List.getElem?_append_left (by rw [sched_length]; omega)]
  rw [show n = i + 1 + (n - (i + 1)) by omega, show m = i + 1 + (m - (i + 1)) by omega, key, key]
/-- the j-th word -/
def WW (b : List UInt8) (j : Nat) : UInt32 := (sched b 64).getD j 0
theorem WW_eq (b : List UInt8) {j n : Nat} (hj : j < n) (h64 : j < 64) : (sched b n).getD j 0 = WW b j := sched_get b hj 64 h64
theorem sched_last (b : List UInt8) (n : Nat) : (sched b (n + 1)).getD n 0 = if n < 16 then wordAt b n else nextW (sched b n) n := by
  simp only [sched, List.getD_eq_getElem?_getD]
  rw [List.getElem?_append_right (by rw [sched_length]; omega), sched_length, Nat.sub_self]; rfl
theorem WW_first (b : List UInt8) {n : Nat} (h : n < 16) : WW b n = wordAt b n := by
  rw [← WW_eq b (Nat.lt_succ_self n) (by omega), sched_last, if_pos h]
theorem WW_next (b : List UInt8) {n : Nat} (h : 16 ≤ n) (h64 : n < 64) : WW b n = WW b (n - 16) + sig0 (WW b (n - 15)) + WW b (n - 7) + sig1 (WW b (n - 2)) := by
  rw [← WW_eq b (Nat.lt_succ_self n) (by omega), sched_last, if_neg (by omega)]
  unfold nextW
  rw [WW_eq b (by omega) (by omega), WW_eq b (by omega) (by omega), WW_eq b (by omega) (by omega), WW_eq b (by omega) (by omega)]
theorem runB_add (m n : Nat) (h : S8) (l : List UInt8) : runB (m + n) h l = runB n (runB m h l) (l.drop (64 * m)) := by
  induction m generalizing h l with
  | zero => simp [runB]
  | succ m ih =>
    rw [show m + 1 + n = (m + n) + 1 by omega]
    simp only [runB]
    rw [ih, List.drop_drop]
    congr 2; omega
theorem runB_app (n : Nat) (h : S8) (l m : List UInt8) (hn : 64 * n ≤ l.length) : runB n h (l ++ m) = runB n h l := by
  induction n generalizing h l with
  | zero => rfl
  | succ n ih =>
    simp only [runB]
    rw [List.take_append_of_le_length (by omega), List.drop_append_of_le_length (by omega), ih _ _ (by simp; omega)]

theorem out8_length (v : S8) : (out8 v).length = 32 := rfl
theorem sha_length (s : List UInt8) : (sha s).length = 32 := rfl
theorem sha_abc : sha [97, 98, 99] = [0xba, 0x78, 0x16, 0xbf, 0x8f, 0x01, 0xcf, 0xea, 0x41, 0x41, 0x40, 0xde, 0x5d, 0xae, 0x22, 0x23, 0xb0, 0x03, 0x61, 0xa3, 0x96, 0x17, 0x7a, 0x9c, 0xb4, 0x10, 0xff, 0x61, 0xf2, 0x00, 0x15, 0xad] := by
  decide +kernel
end Go.Proofs.YtjajoiahgfafgaaGreatDoor.Plain
end

/- Whole rows: a store into a row of the call's own, a load of one. -/
section
namespace Go.Proofs.YtjajoiahgfafgaaGreatDoor
open Go.RowKit

theorem heap_setCells {e : TypeId} {g : Nat} : ∀ (vs : List Value) (o : Nat) (C : Array Value) (w : World), w.heap[g]? = some (.cells C e (0, 0)) → o + vs.length ≤ C.size →
    (w.setCells g o vs).heap[g]? = some (.cells (C.toList.take o ++ vs ++ C.toList.drop (o + vs.length)).toArray e (0, 0)) ∧ w.grownBy (w.setCells g o vs) (some g) ∧ (w.setCells g o vs).heap.size = w.heap.size
  | [], o, C, w, h, _ => ⟨by simpa [World.setCells] using h, gb_refl _ _, rfl⟩
  | v :: vs, o, C, w, h, hl => by
    simp only [List.length_cons] at hl
    have h1 := heap_set h o v
    obtain ⟨h2, h3, h4⟩ := heap_setCells vs (o + 1) (C.setIfInBounds o v) (w.setCell ⟨g, o, none⟩ v) h1 (by simp; omega)
    refine ⟨?_, ?_, ?_⟩
    · show (World.setCells (w.setCell ⟨g, o, none⟩ v) g (o + 1) vs).heap[g]? = _
      rw [h2]
      congr 2
      have e1 : (C.setIfInBounds o v).toList.take (o + 1) = C.toList.take o ++ [v] := by
        rw [Array.toList_setIfInBounds, List.take_set, List.take_succ_eq_append_getElem (by simp; omega)]
        rw [List.set_append_right _ _ (by simp; omega)]
        have hm : min o C.size = o := by omega
        simp [hm]
      have e2 : (C.setIfInBounds o v).toList.drop (o + 1 + vs.length) = C.toList.drop (o + (v :: vs).length) := by
        rw [Array.toList_setIfInBounds, List.drop_set_of_lt (by omega), List.length_cons]; congr 1; omega
      rw [e1, e2]; simp
    · show w.grownBy (World.setCells (w.setCell ⟨g, o, none⟩ v) g (o + 1) vs) (some g)
      have hs := gb_set (gb_refl w (some g)) (p := ⟨g, o, none⟩) (.inl rfl) v
      exact ⟨h3.os.trans hs.os, h3.tape.trans hs.tape, h3.output.trans hs.output, Nat.le_trans hs.size h3.size, fun i hi hne => (h3.block i (Nat.lt_of_lt_of_le hi hs.size) hne).trans (hs.block i hi hne)⟩
    · show (World.setCells (w.setCell ⟨g, o, none⟩ v) g (o + 1) vs).heap.size = _
      rw [h4]; simp [World.setCell]

/-- A whole row is stored. -/
theorem wpList_store_row {P : Program} {ops : Array Oper} {rest : List Oper} {op : Oper} {a : Act} {w : World} {Q : Exit → Act → World → Prop} (hgd : op.guard = none) (ty : TypeId) (x y : Operand) (ho : op.op = .store ty x y)
    (g : Nat) (cells C : Array Value) (e : TypeId) (hx : a.eval x = .pointer (some ⟨g, 0, none⟩)) (hy : a.eval y = .agg cells)
    (hg : w.heap[g]? = some (.cells C e (0, 0))) (hC : C.size = cells.size) (hi : (P.info? ty).map (·.size) = some cells.size) (h1 : cells.all (·.oneCell') = true)
    (h : ∀ w', w.grownBy w' (some g) → w'.heap.size = w.heap.size → w'.heap[g]? = some (.cells cells e (0, 0)) → wpList P ops Q rest (a.put op.dst undef) w') : wpList P ops Q (op :: rest) a w := by
  obtain ⟨h2, h3, h4⟩ := heap_setCells cells.toList 0 C w hg (by simp [hC])
  refine wpList_store_mid hgd ty x y ho g 0 cells hx hy (fun j hj => ?_) hi h1 (h _ h3 h4 ?_)
  · refine ⟨?_, frozen_of_row w g _ C e hg⟩
    rw [cell_of_row w g _ C e _ hg]
    simp [hC, hj]
  · rw [h2, List.take_zero, List.drop_eq_nil_of_le (by simp [hC])]; simp

theorem heap_new' (W : World) (o : Obj) (n : Nat) (h : W.heap.size = n) : (W.alloc o).heap[n]? = some o := by subst h; exact heap_alloc_new W o
theorem heap_old' {W : World} {o x : Obj} {n : Nat} (h : W.heap[n]? = some x) : (W.alloc o).heap[n]? = some x := by
  rw [Below.heap_alloc _ _ _ (Array.getElem?_eq_some_iff.1 h).1]; exact h

end Go.Proofs.YtjajoiahgfafgaaGreatDoor
end

/- Words turned; what the 64 rounds make of a block. -/
section
namespace Go.Proofs.YtjajoiahgfafgaaGreatDoor
open Go.RowKit Plain

set_option maxHeartbeats 400000 in
theorem rotl_any (x : UInt32) (k : Int) (n m : Nat) (w : World) (h1 : Go.bits .and .u64 (IntKind.u64.wrap k) 31 = (m : Int)) (hn : 1 ≤ n) (hm : m + n = 32) (hm1 : 1 ≤ m) :
    Calls Tryz.prog 100 #[.int .u32 (V x), .int .i64 k] w fun e w' => e = .returned (.int .u32 (V (rotr x (UInt32.ofNat n)))) ∧ w' = w := by
  have hx := V_lt x
  have b1 : 0 ≤ (m : Int) := by omega
  have b2 : (m : Int) < 32 := by omega
  go_enter Tryz.func100, Tryz.ntmps100
  go_wp2_with (fail)
  go_ret
  exact ⟨ret_int (by simpa using rot_eq x n m hn hm hm1), rfl⟩

theorem rotl_7 (x : UInt32) (w : World) : Calls Tryz.prog 100 #[.int .u32 (V x), .int .i64 (-7)] w fun e w' => e = .returned (.int .u32 (V (rotr x 7))) ∧ w' = w :=
  rotl_any x (-7) 7 25 w (by decide) (by decide) (by decide) (by decide)
theorem rotl_18 (x : UInt32) (w : World) : Calls Tryz.prog 100 #[.int .u32 (V x), .int .i64 (-18)] w fun e w' => e = .returned (.int .u32 (V (rotr x 18))) ∧ w' = w :=
  rotl_any x (-18) 18 14 w (by decide) (by decide) (by decide) (by decide)
theorem rotl_17 (x : UInt32) (w : World) : Calls Tryz.prog 100 #[.int .u32 (V x), .int .i64 (-17)] w fun e w' => e = .returned (.int .u32 (V (rotr x 17))) ∧ w' = w :=
  rotl_any x (-17) 17 15 w (by decide) (by decide) (by decide) (by decide)
theorem rotl_19 (x : UInt32) (w : World) : Calls Tryz.prog 100 #[.int .u32 (V x), .int .i64 (-19)] w fun e w' => e = .returned (.int .u32 (V (rotr x 19))) ∧ w' = w :=
  rotl_any x (-19) 19 13 w (by decide) (by decide) (by decide) (by decide)
theorem rotl_2 (x : UInt32) (w : World) : Calls Tryz.prog 100 #[.int .u32 (V x), .int .i64 (-2)] w fun e w' => e = .returned (.int .u32 (V (rotr x 2))) ∧ w' = w :=
  rotl_any x (-2) 2 30 w (by decide) (by decide) (by decide) (by decide)
theorem rotl_13 (x : UInt32) (w : World) : Calls Tryz.prog 100 #[.int .u32 (V x), .int .i64 (-13)] w fun e w' => e = .returned (.int .u32 (V (rotr x 13))) ∧ w' = w :=
  rotl_any x (-13) 13 19 w (by decide) (by decide) (by decide) (by decide)
theorem rotl_22 (x : UInt32) (w : World) : Calls Tryz.prog 100 #[.int .u32 (V x), .int .i64 (-22)] w fun e w' => e = .returned (.int .u32 (V (rotr x 22))) ∧ w' = w :=
  rotl_any x (-22) 22 10 w (by decide) (by decide) (by decide) (by decide)
theorem rotl_6 (x : UInt32) (w : World) : Calls Tryz.prog 100 #[.int .u32 (V x), .int .i64 (-6)] w fun e w' => e = .returned (.int .u32 (V (rotr x 6))) ∧ w' = w :=
  rotl_any x (-6) 6 26 w (by decide) (by decide) (by decide) (by decide)
theorem rotl_11 (x : UInt32) (w : World) : Calls Tryz.prog 100 #[.int .u32 (V x), .int .i64 (-11)] w fun e w' => e = .returned (.int .u32 (V (rotr x 11))) ∧ w' = w :=
  rotl_any x (-11) 11 21 w (by decide) (by decide) (by decide) (by decide)
theorem rotl_25 (x : UInt32) (w : World) : Calls Tryz.prog 100 #[.int .u32 (V x), .int .i64 (-25)] w fun e w' => e = .returned (.int .u32 (V (rotr x 25))) ∧ w' = w :=
  rotl_any x (-25) 25 7 w (by decide) (by decide) (by decide) (by decide)

attribute [local go_sem] V_xor V_and V_or V_not V_add V_add3 V_add4 V_shr3 V_shr10

/-- The eight words, and a row of words, as cells. -/
def cells8 (v : S8) : Array Value := #[.int .u32 (V v.a), .int .u32 (V v.b), .int .u32 (V v.c), .int .u32 (V v.d), .int .u32 (V v.e), .int .u32 (V v.f), .int .u32 (V v.g), .int .u32 (V v.h)]
def wordsV (l : List UInt32) : List Value := l.map fun x => .int .u32 (V x)

theorem heap_set_ne' {w : World} {b c : Nat} (h : c ≠ b) (k : Nat) (v : Value) : (w.setCell ⟨b, k, none⟩ v).heap[c]? = w.heap[c]? := by
  simp only [World.setCell, Array.getElem?_modify]
  rw [if_neg (fun e => h e.symm)]
/-- The worlds of hash.round: block B the state that came in, B + 1 the result, B + 2 the constants, B + 3 the words. -/
structure Rnd (w wr : World) (h : S8) (C : Array Value) : Prop where
  b0 : wr.heap[w.heap.size]? = some (.cells (cells8 h) 109 (0, 0))
  b1 : wr.heap[w.heap.size + 1]? = some (.cells (cells8 ⟨0, 0, 0, 0, 0, 0, 0, 0⟩) 109 (0, 0))
  b2 : wr.heap[w.heap.size + 2]? = some (.cells (wordsV KK).toArray 132 (0, 0))
  b3 : wr.heap[w.heap.size + 3]? = some (.cells C 132 (0, 0))
  size : wr.heap.size = w.heap.size + 4
  below : Below w.heap.size w wr

structure Rnd1 (w wr : World) (h : S8) : Prop where
  b0 : wr.heap[w.heap.size]? = some (.cells (cells8 h) 109 (0, 0))
  b1 : wr.heap[w.heap.size + 1]? = some (.cells (cells8 ⟨0, 0, 0, 0, 0, 0, 0, 0⟩) 109 (0, 0))
  b2 : wr.heap[w.heap.size + 2]? = some (.cells (wordsV KK).toArray 132 (0, 0))
  size : wr.heap.size = w.heap.size + 3
  below : Below w.heap.size w wr

theorem info64 : (Tryz.prog.info? 132).map (·.size) = some 64 := by kernel_rfl
theorem wordsV_length (l : List UInt32) : (wordsV l).length = l.length := by simp [wordsV]
theorem wordsV_oneCell (l : List UInt32) : (wordsV l).toArray.all (·.oneCell') = true := by
  refine all_oneCell_toArray fun v hv => ?_
  simp only [wordsV, List.mem_map] at hv
  obtain ⟨x, _, rfl⟩ := hv
  rfl
theorem KK_length : KK.length = 64 := rfl

theorem rnd1_of (w : World) (h : S8) (Z : Array Value) (w' : World)
    (hg : ((((w.alloc (.cells (cells8 h) 109)).alloc (.cells (cells8 ⟨0, 0, 0, 0, 0, 0, 0, 0⟩) 109)).alloc (.cells Z 132))).grownBy w' (some (w.heap.size + 1 + 1)))
    (hs : w'.heap.size = w.heap.size + 1 + 1 + 1)
    (hb : w'.heap[w.heap.size + 1 + 1]? = some (.cells (wordsV KK).toArray 132 (0, 0))) : Rnd1 w w' h := by
  have h0 : (((w.alloc (.cells (cells8 h) 109)).alloc (.cells (cells8 ⟨0, 0, 0, 0, 0, 0, 0, 0⟩) 109)).alloc (.cells Z 132)).heap[w.heap.size]? = some (.cells (cells8 h) 109 (0, 0)) := by
    rw [Below.heap_alloc _ _ _ (by simp; omega), Below.heap_alloc _ _ _ (by simp)]; exact heap_alloc_new _ _
  have h1 : (((w.alloc (.cells (cells8 h) 109)).alloc (.cells (cells8 ⟨0, 0, 0, 0, 0, 0, 0, 0⟩) 109)).alloc (.cells Z 132)).heap[w.heap.size + 1]? = some (.cells (cells8 ⟨0, 0, 0, 0, 0, 0, 0, 0⟩) 109 (0, 0)) := by
    rw [Below.heap_alloc _ _ _ (by simp)]; simpa using heap_alloc_new (w.alloc (.cells (cells8 h) 109)) _
  refine ⟨(hg.block _ (by first | (simp; done) | (simp; omega)) (fun e => by have := Option.some.inj e; omega)).trans h0, (hg.block _ (by first | (simp; done) | (simp; omega)) (fun e => by have := Option.some.inj e; omega)).trans h1, hb, hs, ?_⟩
  exact below_gb (B := w.heap.size) ((((Below.refl _ _).alloc (Nat.le_refl _) _).alloc (by simp) _).alloc (by rw [World.size_alloc, World.size_alloc]; omega) _) (by rw [World.size_alloc, World.size_alloc, World.size_alloc]; omega) hg (by omega)

theorem Rnd1.next {w wr : World} {h : S8} (hr : Rnd1 w wr h) (C : Array Value) : Rnd w (wr.alloc (.cells C 132)) h C :=
  ⟨heap_old' hr.b0, heap_old' hr.b1, heap_old' hr.b2, heap_new' _ _ _ hr.size, by simp [hr.size], hr.below.alloc (by rw [hr.size]; omega) _⟩

theorem Rnd.set {w wr : World} {h : S8} {C : Array Value} (hr : Rnd w wr h C) (k : Nat) (v : Value) : Rnd w (wr.setCell ⟨w.heap.size + 3, k, none⟩ v).drew h (C.setIfInBounds k v) := by
  have hs : ∀ j, j ≠ w.heap.size + 3 → (wr.setCell ⟨w.heap.size + 3, k, none⟩ v).drew.heap[j]? = wr.heap[j]? := fun j hj => by
    simp only [World.drew, World.setCell, Array.getElem?_modify]
    rw [if_neg (fun e => hj e.symm)]
  refine ⟨(hs _ (by omega)).trans hr.b0, (hs _ (by omega)).trans hr.b1, (hs _ (by omega)).trans hr.b2, heap_set hr.b3 k v, ?_, (hr.below.setCell (p := ⟨w.heap.size + 3, k, none⟩) (by show w.heap.size ≤ w.heap.size + 3; omega) v).drew⟩
  simp [World.drew, World.setCell, hr.size]
theorem Rnd.drew {w wr : World} {h : S8} {C : Array Value} (hr : Rnd w wr h C) : Rnd w wr.drew h C := ⟨hr.b0, hr.b1, hr.b2, hr.b3, hr.size, hr.below.drew⟩
theorem Rnd.drewN {w wr : World} {h : S8} {C : Array Value} (hr : Rnd w wr h C) (n : Nat) : Rnd w (wr.drewN n) h C := ⟨hr.b0, hr.b1, hr.b2, hr.b3, hr.size, below_drewN hr.below n⟩
theorem wordsV_get {l : List UInt32} (i : Nat) (h : i < l.length) : (wordsV l).toArray[i]? = some (.int .u32 (V (l.getD i 0))) := by
  simp [wordsV, h]
/-- The worlds of the third loop: block B + 4 the words at hand. -/
structure Rnd2 (w wr : World) (h : S8) (C : Array Value) (v : S8) : Prop where
  b0 : wr.heap[w.heap.size]? = some (.cells (cells8 h) 109 (0, 0))
  b1 : wr.heap[w.heap.size + 1]? = some (.cells (cells8 ⟨0, 0, 0, 0, 0, 0, 0, 0⟩) 109 (0, 0))
  b2 : wr.heap[w.heap.size + 2]? = some (.cells (wordsV KK).toArray 132 (0, 0))
  b3 : wr.heap[w.heap.size + 3]? = some (.cells C 132 (0, 0))
  b4 : wr.heap[w.heap.size + 4]? = some (.cells (cells8 v) 109 (0, 0))
  below : Below w.heap.size w wr
theorem Rnd.next {w wr : World} {h : S8} {C : Array Value} (hr : Rnd w wr h C) (v : S8) : Rnd2 w (wr.alloc (.cells (cells8 v) 109)) h C v :=
  ⟨heap_old' hr.b0, heap_old' hr.b1, heap_old' hr.b2, heap_old' hr.b3, heap_new' _ _ _ hr.size, hr.below.alloc (by rw [hr.size]; omega) _⟩
theorem Rnd2.drewN {w wr : World} {h v : S8} {C : Array Value} (hr : Rnd2 w wr h C v) (n : Nat) : Rnd2 w (wr.drewN n) h C v := ⟨hr.b0, hr.b1, hr.b2, hr.b3, hr.b4, below_drewN hr.below n⟩
theorem Rnd2.facts {w wr : World} {h : S8} {C : Array Value} {va vb vc vd ve vf vg vh : UInt32} (hr : Rnd2 w wr h C ⟨va, vb, vc, vd, ve, vf, vg, vh⟩) :
    wr.cell? ⟨w.heap.size + 1 + 1 + 1 + 1, 0, none⟩ = some (.int .u32 (V va)) ∧ wr.cell? ⟨w.heap.size + 1 + 1 + 1 + 1, 1, none⟩ = some (.int .u32 (V vb)) ∧
    wr.cell? ⟨w.heap.size + 1 + 1 + 1 + 1, 2, none⟩ = some (.int .u32 (V vc)) ∧ wr.cell? ⟨w.heap.size + 1 + 1 + 1 + 1, 3, none⟩ = some (.int .u32 (V vd)) ∧
    wr.cell? ⟨w.heap.size + 1 + 1 + 1 + 1, 4, none⟩ = some (.int .u32 (V ve)) ∧ wr.cell? ⟨w.heap.size + 1 + 1 + 1 + 1, 5, none⟩ = some (.int .u32 (V vf)) ∧
    wr.cell? ⟨w.heap.size + 1 + 1 + 1 + 1, 6, none⟩ = some (.int .u32 (V vg)) ∧ wr.cell? ⟨w.heap.size + 1 + 1 + 1 + 1, 7, none⟩ = some (.int .u32 (V vh)) := by
  refine ⟨?_, ?_, ?_, ?_, ?_, ?_, ?_, ?_⟩ <;> (rw [cell_of_row wr (w.heap.size + 1 + 1 + 1 + 1) _ _ 109 (0, 0) hr.b4]; rfl)
theorem Rnd2.all {w wr : World} {h : S8} {C : Array Value} {b : List UInt8} {v : S8} (hr : Rnd2 w wr h C v) (hC : ∀ j, j < 64 → C[j]? = some (.int .u32 (V (WW b j)))) (i : Nat) (hi : i < 64) :
    wr.cell? ⟨w.heap.size + 1 + 1 + 1, i, none⟩ = some (.int .u32 (V (WW b i))) ∧ wr.cell? ⟨w.heap.size + 1 + 1, i, none⟩ = some (.int .u32 (V (KK.getD i 0))) ∧
    wr.cell? ⟨w.heap.size + 1 + 1 + 1 + 1, 0, none⟩ = some (.int .u32 (V v.a)) ∧ wr.cell? ⟨w.heap.size + 1 + 1 + 1 + 1, 1, none⟩ = some (.int .u32 (V v.b)) ∧
    wr.cell? ⟨w.heap.size + 1 + 1 + 1 + 1, 2, none⟩ = some (.int .u32 (V v.c)) ∧ wr.cell? ⟨w.heap.size + 1 + 1 + 1 + 1, 3, none⟩ = some (.int .u32 (V v.d)) ∧
    wr.cell? ⟨w.heap.size + 1 + 1 + 1 + 1, 4, none⟩ = some (.int .u32 (V v.e)) ∧ wr.cell? ⟨w.heap.size + 1 + 1 + 1 + 1, 5, none⟩ = some (.int .u32 (V v.f)) ∧
    wr.cell? ⟨w.heap.size + 1 + 1 + 1 + 1, 6, none⟩ = some (.int .u32 (V v.g)) ∧ wr.cell? ⟨w.heap.size + 1 + 1 + 1 + 1, 7, none⟩ = some (.int .u32 (V v.h)) :=
  ⟨by rw [cell_of_row wr (w.heap.size + 1 + 1 + 1) i C 132 (0, 0) hr.b3]; exact hC i hi,
   by rw [cell_of_row wr (w.heap.size + 1 + 1) i _ 132 (0, 0) hr.b2]; exact wordsV_get i (by rw [KK_length]; exact hi), Rnd2.facts hr⟩
theorem Rnd2.put {w wr w' : World} {h v : S8} {C : Array Value} (hr : Rnd2 w wr h C v) (hg : wr.grownBy w' (some (w.heap.size + 4))) (u : S8) (hb : w'.heap[w.heap.size + 4]? = some (.cells (cells8 u) 109 (0, 0))) : Rnd2 w w' h C u := by
  have hs : ∀ j x, j ≠ w.heap.size + 4 → wr.heap[j]? = some x → w'.heap[j]? = some x := fun j x hj hx => (hg.block j (Array.getElem?_eq_some_iff.1 hx).1 (fun e => hj (Option.some.inj e))).trans hx
  exact ⟨hs _ _ (by omega) hr.b0, hs _ _ (by omega) hr.b1, hs _ _ (by omega) hr.b2, hs _ _ (by omega) hr.b3, hb, below_gb hr.below hr.below.size hg (by omega)⟩
theorem info8 : (Tryz.prog.info? 109).map (·.size) = some 8 := by kernel_rfl
theorem cells8_size (v : S8) : (cells8 v).size = 8 := rfl
theorem oneCell8 (v : S8) : ∀ (i : Nat) (h : i < (cells8 v).size), (cells8 v)[i].oneCell' = true := by
  intro i h
  have h8 : i < 8 := h
  match i, h8 with
  | 0, _ => rfl
  | 1, _ => rfl
  | 2, _ => rfl
  | 3, _ => rfl
  | 4, _ => rfl
  | 5, _ => rfl
  | 6, _ => rfl
  | 7, _ => rfl
  | j + 8, h => omega
theorem cells8_step (a b c d e f g h k x : UInt32) : #[Value.int .u32 (V (h + (rotr e 6 ^^^ rotr e 11 ^^^ rotr e 25) + (e &&& f ^^^ ~~~e &&& g) + k + x + ((rotr a 2 ^^^ rotr a 13 ^^^ rotr a 22) + (a &&& b ^^^ a &&& c ^^^ b &&& c)))), .int .u32 (V a), .int .u32 (V b), .int .u32 (V c),
    .int .u32 (V (d + (h + (rotr e 6 ^^^ rotr e 11 ^^^ rotr e 25) + (e &&& f ^^^ ~~~e &&& g) + k + x))), .int .u32 (V e), .int .u32 (V f), .int .u32 (V g)] = cells8 (Plain.step ⟨a, b, c, d, e, f, g, h⟩ k x) := by
  unfold cells8 Plain.step Sig0 Sig1 ch maj
  rfl
theorem set_get {C : Array Value} {k : Nat} {v : Value} {P : Nat → Value} (hk : k < C.size) (hv : v = P k) (h : ∀ j, j < k → C[j]? = some (P j)) : ∀ j, j < k + 1 → (C.setIfInBounds k v)[j]? = some (P j) := by
  intro j hj
  by_cases e : j = k
  · subst e; rw [Array.getElem?_setIfInBounds_self_of_lt hk, hv]
  · rw [Array.getElem?_setIfInBounds_ne (Ne.symm e)]; exact h j (by omega)

/-- the j-th of the eight -/
def at8 (v : S8) (j : Nat) : UInt32 := match j with | 0 => v.a | 1 => v.b | 2 => v.c | 3 => v.d | 4 => v.e | 5 => v.f | 6 => v.g | _ => v.h
theorem cells8_get (v : S8) (j : Nat) (h : j < 8) : (cells8 v)[j]? = some (.int .u32 (V (at8 v j))) := by
  match j, h with
  | 0, _ => rfl
  | 1, _ => rfl
  | 2, _ => rfl
  | 3, _ => rfl
  | 4, _ => rfl
  | 5, _ => rfl
  | 6, _ => rfl
  | 7, _ => rfl
  | j + 8, h => omega
theorem at8_add (v h : S8) (j : Nat) : at8 (add8 v h) j = at8 v j + at8 h j := by
  unfold at8 add8
  split <;> rfl
theorem cells8_ext (D : Array Value) (v : S8) (hD : D.size = 8) (h : ∀ j, j < 8 → D[j]? = some (.int .u32 (V (at8 v j)))) : D = cells8 v := by
  apply Array.ext_getElem?
  intro i
  by_cases hi : i < 8
  · rw [h i hi, cells8_get v i hi]
  · rw [Array.getElem?_eq_none (by omega), Array.getElem?_eq_none (by show 8 ≤ i; omega)]
/-- The worlds of the fourth loop. -/
structure Rnd3 (w wr : World) (h : S8) (D : Array Value) : Prop where
  b0 : wr.heap[w.heap.size]? = some (.cells (cells8 h) 109 (0, 0))
  b1 : wr.heap[w.heap.size + 1]? = some (.cells (cells8 ⟨0, 0, 0, 0, 0, 0, 0, 0⟩) 109 (0, 0))
  b4 : wr.heap[w.heap.size + 4]? = some (.cells D 109 (0, 0))
  below : Below w.heap.size w wr
theorem Rnd2.last {w wr : World} {h v : S8} {C : Array Value} (hr : Rnd2 w wr h C v) : Rnd3 w wr h (cells8 v) := ⟨hr.b0, hr.b1, hr.b4, hr.below⟩
theorem Rnd3.drew {w wr : World} {h : S8} {D : Array Value} (hr : Rnd3 w wr h D) : Rnd3 w wr.drew h D := ⟨hr.b0, hr.b1, hr.b4, hr.below.drew⟩
theorem Rnd3.set {w wr : World} {h : S8} {D : Array Value} (hr : Rnd3 w wr h D) (k : Nat) (x : Value) : Rnd3 w (wr.setCell ⟨w.heap.size + 4, k, none⟩ x) h (D.setIfInBounds k x) :=
  ⟨(heap_set_ne' (by omega) k x).trans hr.b0, (heap_set_ne' (by omega) k x).trans hr.b1, heap_set hr.b4 k x, hr.below.setCell (p := ⟨w.heap.size + 4, k, none⟩) (by show w.heap.size ≤ w.heap.size + 4; omega) x⟩
theorem add8_step {D : Array Value} {v h : S8} {n : Nat} (hn : n < 8) (hD : D.size = 8) (hA : ∀ j, j < 8 → D[j]? = some (.int .u32 (V (if j < n then at8 v j + at8 h j else at8 v j)))) :
    ∀ j, j < 8 → (D.setIfInBounds n (.int .u32 (V (at8 v n + at8 h n))))[j]? = some (.int .u32 (V (if j < n + 1 then at8 v j + at8 h j else at8 v j))) := by
  intro j hj
  by_cases e : j = n
  · subst e; rw [Array.getElem?_setIfInBounds_self_of_lt (by omega), if_pos (by omega)]
  · rw [Array.getElem?_setIfInBounds_ne (Ne.symm e), hA j hj]
    by_cases h2 : j < n
    · rw [if_pos h2, if_pos (by omega)]
    · rw [if_neg h2, if_neg (by omega)]

set_option maxRecDepth 100000 in
set_option maxHeartbeats 4000000 in
theorem round_any (h : S8) (b : List UInt8) (w : World) (hb : b.length = 64) :
    Calls Tryz.prog 77 #[.agg (cells8 h), .string ⟨b.toArray⟩] w (Ret w (.agg (cells8 (round h b)))) := by
  have hlen : (64 : Int) ≤ b.length := by omega
  have hlen2 : (b.length : Int) ≤ 64 := by omega
  unfold cells8
  go_enter Tryz.func77, Tryz.ntmps77
  go_upto_region 1 with (fail)
  go_cut [5] (fun s5 wx => s5 = .pointer (some ⟨w.heap.size + 1 + 1, 0, none⟩) ∧ Rnd1 w wx h)
  case first =>
    go_wp2_with (refine wpList_store_row rfl 132 _ _ rfl (w.heap.size + 1 + 1) (wordsV KK).toArray ?C 132 rfl ?hy ?hg ?hC info64 (wordsV_oneCell _) ?_)
    case hy => kernel_rfl
    case hg =>
      refine heap_new' _ _ _ ?_
      simp
    case hC => rfl
    intro w2 hg2 hs2 hb2
    have hr := rnd1_of w h _ w2 hg2 hs2 hb2
    clear hg2 hs2 hb2
    go_wp2_with (fail)
    go_meet
    exact ⟨rfl, hr⟩
  case rest =>
    obtain ⟨rfl, hr1⟩ := hcut
    have hsz := hr1.size
    have Hr1 := Lib.hid hr1
    have HS := Lib.hid hsz
    clear hr1 hsz
    go_upto_region 2 with (fail)
    go_cut [6] (fun s6 wx => s6 = .pointer (some ⟨w.heap.size + 1 + 1 + 1, 0, none⟩) ∧ ∃ C, C.size = 64 ∧ Rnd w wx h C)
    case first =>
      go_wp2_with (fail)
      go_meet
      refine ⟨by rw [HS.out], _, ?_, Hr1.out.next _⟩
      rfl
    case rest =>
      obtain ⟨rfl, C0, hC0, hr0⟩ := hcut
      have HR0 := Lib.hid hr0
      clear hr0
      go_wp2_with (fail)
      go_loopw [7, 21] (fun _ t21 wr => ∃ (k : Nat) (C : Array Value), k ≤ 16 ∧ t21 = .int .i64 k ∧ C.size = 64 ∧ Rnd w wr h C ∧ ∀ j, j < k → C[j]? = some (.int .u32 (V (wordAt b j)))) (fun _ t21 _ => 16 - (intOf t21).toNat)
      case atStart => exact ⟨0, C0, by omega, rfl, hC0, HR0.out, fun j hj => by omega⟩
      case round =>
        obtain ⟨k, C, hk, rfl, hC, hr, hT⟩ := hrel
        by_cases hlt : k < 16
        · have HT := Lib.hid hT
          have HR := Lib.hid hr
          clear hT hr hC0 HR0
          go_wp2_with (fail)
          have hi0 : 4 * k < b.length := by omega
          have hi1 : 4 * k + 1 < b.length := by omega
          have hi2 : 4 * k + 2 < b.length := by omega
          have hi3 : 4 * k + 3 < b.length := by omega
          have hk0 : (0 : Int) ≤ k := by omega
          have hfz : wr.frozen? ⟨w.heap.size + 1 + 1 + 1, k, none⟩ = false := frozen_of_row wr _ k C 132 HR.out.b3
          have hce : wr.cell? ⟨w.heap.size + 1 + 1 + 1, k, none⟩ = some (C[k]'(by omega)) := by
            rw [cell_of_row wr (w.heap.size + 1 + 1 + 1) k C 132 (0, 0) HR.out.b3]; exact Array.getElem?_eq_getElem (by omega)
          have hk64 : (k : Int) < 64 := by omega
          have e0 : IntKind.i64.wrap (4 * (k : Int)) = 4 * (k : Int) := IntWalk.i64_in _ (by omega)
          have e1 : IntKind.i64.wrap (4 * (k : Int) + 1) = 4 * (k : Int) + 1 := IntWalk.i64_in _ (by omega)
          have e2 : IntKind.i64.wrap (4 * (k : Int) + 2) = 4 * (k : Int) + 2 := IntWalk.i64_in _ (by omega)
          have e3 : IntKind.i64.wrap (4 * (k : Int) + 3) = 4 * (k : Int) + 3 := IntWalk.i64_in _ (by omega)
          have n0 : (4 * (k : Int)).toNat = 4 * k := by omega
          have n1 : (4 * (k : Int) + 1).toNat = 4 * k + 1 := by omega
          have n2 : (4 * (k : Int) + 2).toNat = 4 * k + 2 := by omega
          have n3 : (4 * (k : Int) + 3).toNat = 4 * k + 3 := by omega
          have p0 : 0 ≤ (4 * (k : Int)) := by omega
          have p1 : 0 ≤ (4 * (k : Int) + 1) := by omega
          have p2 : 0 ≤ (4 * (k : Int) + 2) := by omega
          have p3 : 0 ≤ (4 * (k : Int) + 3) := by omega
          have q0 : 4 * (k : Int) < 64 := by omega
          have q1 : 4 * (k : Int) + 1 < 64 := by omega
          have q2 : 4 * (k : Int) + 2 < 64 := by omega
          have q3 : 4 * (k : Int) + 3 < 64 := by omega
          have HW := Lib.hid (word_go (b[4 * k]) (b[4 * k + 1]) (b[4 * k + 2]) (b[4 * k + 3]))
          have HE := Lib.hid (wordAt_eq b k hi3)
          have HC := Lib.hid hC
          go_region
          clear e0 e1 e2 e3 hce hfz
          go_wp2_with (fail)
          go_roundw
          case rel =>
            refine ⟨k + 1, _, by omega, by go_num, ?_, HR.out.set k _, set_get (by have := HC.out; omega) ?_ HT.out⟩
            · simpa using HC.out
            · rw [HE.out, ← HW.out]
          case measure => simp [intOf]; omega
        · have hT16 : ∀ j, j < 16 → C[j]? = some (.int .u32 (V (WW b j))) := fun j hj => by rw [WW_first b hj]; exact hT j (by omega)
          have HT := Lib.hid hT16
          have HR := Lib.hid hr
          have HC := Lib.hid hC
          clear hT hT16 hr hC hC0 HR0
          go_wp2_with (fail)
          go_loopw [8, 9, 10, 11, 12] (fun t8 _ _ _ _ wr => ∃ (n : Nat) (C : Array Value), 16 ≤ n ∧ n ≤ 64 ∧ t8 = .int .i64 n ∧ Hid (C.size = 64) ∧ Hid (Rnd w wr h C) ∧ Hid (∀ j, j < n → C[j]? = some (.int .u32 (V (WW b j))))) (fun t8 _ _ _ _ _ => 64 - (intOf t8).toNat)
          case atStart => exact ⟨16, C, by omega, by omega, rfl, HC, HR, HT⟩
          case round =>
            clear HC HR HT C
            obtain ⟨n, C, hn1, hn2, rfl, HC, HR, HT⟩ := hrel
            by_cases hlt : n < 64
            · have hcell : ∀ j, j < n → wr.cell? ⟨w.heap.size + 1 + 1 + 1, j, none⟩ = some (Value.int .u32 (V (WW b j))) := fun j hj => by
                rw [cell_of_row wr (w.heap.size + 1 + 1 + 1) j C 132 (0, 0) HR.out.b3]; exact HT.out j hj
              have c15 := hcell (n - 15) (by omega)
              have c2 := hcell (n - 2) (by omega)
              have c16 := hcell (n - 16) (by omega)
              have c7 := hcell (n - 7) (by omega)
              have hfz : wr.frozen? ⟨w.heap.size + 1 + 1 + 1, n, none⟩ = false := frozen_of_row wr _ n C 132 HR.out.b3
              obtain ⟨v0, hce⟩ : ∃ v0, wr.cell? ⟨w.heap.size + 1 + 1 + 1, n, none⟩ = some v0 := by
                have hC := HC.out
                refine ⟨C[n]'(by omega), ?_⟩
                rw [cell_of_row wr (w.heap.size + 1 + 1 + 1) n C 132 (0, 0) HR.out.b3]; exact Array.getElem?_eq_getElem (by omega)
              clear hcell
              have e15 : IntKind.i64.wrap ((n : Int) - 15) = (n : Int) - 15 := IntWalk.i64_in _ (by omega)
              have e2 : IntKind.i64.wrap ((n : Int) - 2) = (n : Int) - 2 := IntWalk.i64_in _ (by omega)
              have e16 : IntKind.i64.wrap ((n : Int) - 16) = (n : Int) - 16 := IntWalk.i64_in _ (by omega)
              have e7 : IntKind.i64.wrap ((n : Int) - 7) = (n : Int) - 7 := IntWalk.i64_in _ (by omega)
              have n15 : ((n : Int) - 15).toNat = n - 15 := by omega
              have n2 : ((n : Int) - 2).toNat = n - 2 := by omega
              have n16 : ((n : Int) - 16).toNat = n - 16 := by omega
              have n7 : ((n : Int) - 7).toNat = n - 7 := by omega
              have p15 : 0 ≤ ((n : Int) - 15) := by omega
              have p2 : 0 ≤ ((n : Int) - 2) := by omega
              have p16 : 0 ≤ ((n : Int) - 16) := by omega
              have p7 : 0 ≤ ((n : Int) - 7) := by omega
              have q15 : ((n : Int) - 15) < 64 := by omega
              have q2 : ((n : Int) - 2) < 64 := by omega
              have q16 : ((n : Int) - 16) < 64 := by omega
              have q7 : ((n : Int) - 7) < 64 := by omega
              have hn0 : (0 : Int) ≤ n := by omega
              have hn64 : (n : Int) < 64 := by omega
              go_wp2_with (fail)
              go_region
              go_wp2_with (fail)
              refine (rotl_7 _ _).mono ?_
              rintro e w' ⟨rfl, rfl⟩
              go_wp2_with (fail)
              refine (rotl_18 _ _).mono ?_
              rintro e w' ⟨rfl, rfl⟩
              go_wp2_with (fail)
              refine (rotl_17 _ _).mono ?_
              rintro e w' ⟨rfl, rfl⟩
              go_wp2_with (fail)
              refine (rotl_19 _ _).mono ?_
              rintro e w' ⟨rfl, rfl⟩
              go_wp2_with (fail)
              go_region
              go_wp2_with (fail)
              go_roundw
              case rel =>
                refine ⟨n + 1, _, by omega, by omega, by go_num, ?_, Lib.hid (HR.out.set n _).drew, Lib.hid (set_get (by have := HC.out; omega) ?_ HT.out)⟩
                · exact Lib.hid (by simpa using HC.out)
                · rw [WW_next b hn1 hlt]; unfold sig0 sig1; rfl
              case measure => simp [intOf]; omega
            · have hT64 : ∀ j, j < 64 → C[j]? = some (.int .u32 (V (WW b j))) := fun j hj => HT.out j (by omega)
              have HT64 := Lib.hid hT64
              have hB := HR.out.b0
              unfold cells8 at hB
              have HB := Lib.hid hB
              clear hT64 HT hB
              have hz : wr.heap.size = w.heap.size + 1 + 1 + 1 + 1 := HR.out.size
              have HR2 := Lib.hid (HR.out.next h)
              clear HR
              go_wp2_with (refine wpList_load_row rfl 109 _ rfl w.heap.size rfl 109 _ (0, 0) _ HB.out Tryz.underlying109 rfl (by kernel_rfl) ?_)
              clear HB hz
              go_loopw [14, 15, 16, 17, 18, 100] (fun _ _ _ _ _ t100 wr => ∃ i : Nat, i ≤ 64 ∧ t100 = .int .i64 i ∧ Hid (Rnd2 w wr h C (runW (sched b 64) h i))) (fun _ _ _ _ _ t100 _ => 64 - (intOf t100).toNat)
              case atStart => exact ⟨0, by omega, rfl, HR2⟩
              case round =>
                clear HR2
                obtain ⟨i, hi, rfl, HR⟩ := hrel
                by_cases hlt : i < 64
                · have hstep : runW (sched b 64) h (i + 1) = Plain.step (runW (sched b 64) h i) (KK.getD i 0) (WW b i) := rfl
                  have hc := HR.out.all HT64.out i hlt
                  generalize hx : KK.getD i 0 = kx at *
                  generalize hy : WW b i = wx at *
                  generalize hv : runW (sched b 64) h i = v at *
                  have HS2 := Lib.hid hstep
                  have HX := Lib.hid hx
                  have HY := Lib.hid hy
                  clear hstep hx hy hv
                  obtain ⟨va, vb, vc, vd, ve, vf, vg, vh⟩ := v
                  obtain ⟨cw, ck, c0, c1, c2, c3, c4, c5, c6, c7⟩ := hc
                  have hi0 : (0 : Int) ≤ i := by omega
                  have hi64 : (i : Int) < 64 := by omega
                  go_wp2_with (fail)
                  go_quiet (fail)
                  go_wp2_with (fail)
                  have HR3 := Lib.hid (HR.out.drewN nq)
                  clear cw ck c0 c1 c2 c3 c4 c5 c6 c7 HR
                  generalize wr.drewN nq = w2 at *
                  have hc := HR3.out.all HT64.out i hlt
                  rw [HX.out, HY.out] at hc
                  obtain ⟨cw, ck, c0, c1, c2, c3, c4, c5, c6, c7⟩ := hc
                  refine wp_region_quiet_lit (by kernel_rfl) (by kernel_rfl) ?_
                  iterate 4 (go_big_quiet_step ((go_at_call 100; exact Calls.quiet_of_same (rotl_6 _ _))))
                  iterate 2 (go_big_quiet_step ((go_at_call 100; exact Calls.quiet_of_same (rotl_11 _ _))))
                  iterate 3 (go_big_quiet_step ((go_at_call 100; exact Calls.quiet_of_same (rotl_25 _ _))))
                  repeat (go_big_quiet_step (fail))
                  refine wpQuiet_nil ?_
                  rintro W ⟨nq2, rfl⟩
                  simp only [not_form, V_not, V_and, V_xor, V_add]
                  have HR4 := Lib.hid (HR3.out.drewN nq2)
                  clear cw ck c0 c1 c2 c3 c4 c5 c6 c7 HR3
                  generalize w2.drewN nq2 = w3 at HR4 ⊢
                  have hc := HR4.out.all HT64.out i hlt
                  obtain ⟨_, _, c0, c1, c2, c3, c4, c5, c6, c7⟩ := hc



                  go_wp2_with (fail)
                  refine wp_region_quiet_lit (by kernel_rfl) (by kernel_rfl) ?_
                  iterate 2 (go_big_quiet_step ((go_at_call 100; exact Calls.quiet_of_same (rotl_2 _ _))))
                  iterate 2 (go_big_quiet_step ((go_at_call 100; exact Calls.quiet_of_same (rotl_13 _ _))))
                  iterate 3 (go_big_quiet_step ((go_at_call 100; exact Calls.quiet_of_same (rotl_22 _ _))))
                  repeat (go_big_quiet_step (fail))
                  refine wpQuiet_nil ?_
                  rintro W ⟨nq3, rfl⟩
                  simp only [V_add]
                  have HR5 := Lib.hid (HR4.out.drewN nq3)
                  clear c0 c1 c2 c3 c4 c5 c6 c7 HR4
                  generalize w3.drewN nq3 = w4 at HR5 ⊢
                  have hc := HR5.out.all HT64.out i hlt
                  obtain ⟨_, _, c0, c1, c2, c3, c4, c5, c6, c7⟩ := hc

                  go_upto_region 22 with (fail)
                  have hB4 := HR5.out.b4
                  have HB4 := Lib.hid hB4
                  clear hB4
                  go_wp2_with (refine wpList_store_row rfl 109 _ _ rfl (w.heap.size + 1 + 1 + 1 + 1) ?cells4 ?C4 109 ?hx4 ?hy4 ?hg4 ?hC4 ?hi4 ?h14 ?_)
                  case C4 => exact cells8 ⟨va, vb, vc, vd, ve, vf, vg, vh⟩
                  case cells4 => exact cells8 (Plain.step ⟨va, vb, vc, vd, ve, vf, vg, vh⟩ kx wx)
                  case hy4 => exact cells8_step va vb vc vd ve vf vg vh kx wx
                  case hg4 => exact HB4.out
                  case hC4 => exact (cells8_size _).trans (cells8_size _).symm
                  case hi4 => exact Option.map_eq_some_iff.1 info8
                  case h14 => exact oneCell8 _
                  intro w5 hg5 hs5 hb5
                  have HR6 := Lib.hid (HR5.out.put hg5 _ hb5)
                  clear hg5 hs5 hb5 c0 c1 c2 c3 c4 c5 c6 c7
                  go_wp2_with (fail)
                  go_roundw
                  case rel => exact ⟨i + 1, by omega, by go_num, by rw [HS2.out]; exact HR6⟩
                  case measure => simp [intOf]; omega
                · have HF := Lib.hid (show Rnd3 w wr h (cells8 (runW (sched b 64) h 64)) by
                    have hr := HR.out.last
                    rwa [show i = 64 by omega] at hr)
                  have HRD : Hid (round h b = add8 (runW (sched b 64) h 64) h) := rfl
                  generalize hv : runW (sched b 64) h 64 = v at HF HRD
                  clear hv HR HT64
                  go_wp2_with (fail)
                  go_loopw [19, 182] (fun _ t182 wr => ∃ (n : Nat) (D : Array Value), n ≤ 8 ∧ t182 = .int .i64 n ∧ Hid (D.size = 8) ∧ Hid (Rnd3 w wr h D) ∧ Hid (∀ j, j < 8 → D[j]? = some (.int .u32 (V (if j < n then at8 v j + at8 h j else at8 v j))))) (fun _ t182 _ => 8 - (intOf t182).toNat)
                  case atStart => exact ⟨0, cells8 v, by omega, rfl, Lib.hid rfl, HF, Lib.hid (fun j hj => by rw [cells8_get v j hj, if_neg (by omega)])⟩
                  case round =>
                    clear HF
                    obtain ⟨m, D, hm, rfl, HD, HR, HA⟩ := hrel
                    by_cases hlt : m < 8
                    · have a0 : wr.cell? ⟨w.heap.size, m, none⟩ = some (Value.int .u32 (V (at8 h m))) := by
                        rw [cell_of_row wr (w.heap.size) m _ 109 (0, 0) HR.out.b0]; exact cells8_get h m hlt
                      have a4 : wr.cell? ⟨w.heap.size + 1 + 1 + 1 + 1, m, none⟩ = some (Value.int .u32 (V (at8 v m))) := by
                        rw [cell_of_row wr (w.heap.size + 1 + 1 + 1 + 1) m _ 109 (0, 0) HR.out.b4, HA.out m hlt, if_neg (by omega)]
                      have f4 : wr.frozen? ⟨w.heap.size + 1 + 1 + 1 + 1, m, none⟩ = false := frozen_of_row wr _ m D 109 HR.out.b4
                      have hm0 : (0 : Int) ≤ m := by omega
                      have hm8 : (m : Int) < 8 := by omega
                      go_wp2_with (fail)
                      go_region
                      go_wp2_with (fail)
                      exact ⟨⟨m + 1, _, by omega, by go_num, Lib.hid (by simpa using HD.out), Lib.hid (HR.out.set m _).drew, Lib.hid (add8_step hlt HD.out HA.out)⟩, by simp [intOf]; omega⟩
                    · have hDe : D = cells8 (round h b) := by
                        rw [HRD.out]
                        exact cells8_ext D _ HD.out (fun j hj => by rw [HA.out j hj, if_pos (by omega), at8_add])
                      subst hDe
                      have hB1 := HR.out.b1
                      have HB1 := Lib.hid hB1
                      have HB4 := Lib.hid HR.out.b4
                      clear hB1 HA HD
                      go_wp2_with (first | (refine wpList_load_row rfl 109 _ rfl (w.heap.size + 1 + 1 + 1 + 1) rfl 109 _ (0, 0) _ HB4.out Tryz.underlying109 rfl (by rw [cells8_size]; exact info8) ?_) | (refine wpList_store_row rfl 109 _ _ rfl (w.heap.size + 1) ?cells2 ?C2 109 ?hx2 ?hy2 ?hg2 ?hC2 ?hi2 ?h12 ?_))
                      case C2 => exact cells8 ⟨0, 0, 0, 0, 0, 0, 0, 0⟩
                      case cells2 => exact cells8 (round h b)
                      case hg2 => exact HB1.out
                      case hC2 => exact (cells8_size _).trans (cells8_size _).symm
                      case hi2 => rw [cells8_size]; exact info8
                      case h12 => exact Array.all_eq_true_iff_forall_mem.2 (fun x hx => by obtain ⟨i, hi, rfl⟩ := Array.mem_iff_getElem.1 hx; exact oneCell8 _ i hi)
                      case hy2 => rfl
                      intro w5 hg5 hs5 hb5
                      have hbelow := below_gb HR.out.below HR.out.below.size hg5 (by omega)
                      have HB5 := Lib.hid hb5
                      have HBe := Lib.hid hbelow
                      clear hg5 hs5 hb5 hbelow
                      go_wp2_with (fail)
                      refine bodyPost_ret (v := .agg (cells8 (round h b))) ?_ rfl ⟨rfl, HBe.out⟩
                      exact results_cell_row Tryz.results77 _ _ (w.heap.size + 1) 109 _ (0, 0) _ rfl HB5.out Tryz.underlying109 rfl (by rw [cells8_size]; exact info8)
end Go.Proofs.YtjajoiahgfafgaaGreatDoor
end
