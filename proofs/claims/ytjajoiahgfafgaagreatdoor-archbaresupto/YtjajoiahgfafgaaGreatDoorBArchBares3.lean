/- Texts joined: BigWalk2, Two, BigWalk3, BigWalk6. -/
import Derived.Test.YtjajoiahgfafgaaGreatDoorBArchBares2
import Derived.Test.YtjajoiahgfafgaaGreatDoorBCodeBaseC1
import Derived.OwnWalk
import Derived.ArgAppend
import Derived.Test.YtjajoiahgfafgaaGreatDoorBArchBares1
set_option linter.unusedSimpArgs false
set_option linter.unusedVariables false

/- hawserref04.above, fraction: the first 32 bits behind the point of a root. -/
section
namespace Go.Proofs.YtjajoiahgfafgaaGreatDoor
open Go.RowKit Plain

theorem laid_row' (w : World) (xs : List Value) (e : TypeId) (n : Nat) (hn : xs.length = n) : Reads (w.alloc (.cells xs.toArray e)) 1 (some ⟨w.heap.size, 0, none⟩) n xs :=
  ⟨by omega, fun _ => ⟨_, rfl, fun j u hj => by
    rw [show (⟨w.heap.size, 0, none⟩ : Addr).add j = ⟨w.heap.size, j, none⟩ by unfold Addr.add; split <;> simp_all, cell_of_row _ _ _ xs.toArray e (0, 0) (heap_alloc_new w _)]
    simpa using hj⟩⟩

theorem cells_u64 (n : Int) : (Value.int .u64 n).cells = #[.int .u64 n] := rfl
theorem words_two (x : Nat) (h : x < 137438953472) : Words [x % 4294967296, x / 4294967296] ∧ val [x % 4294967296, x / 4294967296] = x := by
  refine ⟨fun k => ?_, by simp only [val]; omega⟩
  match k with
  | 0 => simp; omega
  | 1 => simp; omega
  | k + 2 => simp
theorem words_one (x : Nat) (h : x < 4294967296) : Words [x] := by
  intro k
  match k with
  | 0 => simpa using h
  | k + 1 => simp
theorem words_app {l m : List Nat} (hl : Words l) (hm : Words m) : Words (l ++ m) := by
  intro k
  simp only [List.getD_eq_getElem?_getD]
  by_cases h : k < l.length
  · rw [List.getElem?_append_left h]; have := hl k; simpa only [List.getD_eq_getElem?_getD] using this
  · rw [List.getElem?_append_right (by omega)]; have := hm (k - l.length); simpa only [List.getD_eq_getElem?_getD] using this
theorem words_zeros (n : Nat) : Words (List.replicate n 0) := by
  intro k
  simp only [List.getD_eq_getElem?_getD, List.getElem?_replicate]; split <;> simp

set_option maxHeartbeats 1000000 in
theorem above_any (x p k : Nat) (w : World) (hx : x < 137438953472) (hp : p < 4294967296) (hk : k ≤ 100) :
    Calls Tryz.prog 150 #[.int .u64 x, .int .u64 p, .int .i64 k] w (Ret w (.bool (gtB (x ^ k) (4294967296 ^ k * p)))) := by
  obtain ⟨i0, hi, hz0, hz1, hz2⟩ := info_parts info_u64
  obtain ⟨ab, hl2, hw2, hv2, hcs⟩ : ∃ ab : List Nat, ab.length = 2 ∧ Words ab ∧ val ab = x ∧ u64s ab = [.int .u64 ((x : Int) % 4294967296), .int .u64 ((x : Int) / 4294967296)] :=
    ⟨_, rfl, (words_two x hx).1, (words_two x hx).2, by simp [u64s]⟩
  go_enter Tryz.func150, Tryz.ntmps150
  go_wp2_with (fail)
  have hA : Reads ((w.alloc (.cells #[.int .u64 ((x : Int) % 4294967296), .int .u64 ((x : Int) / 4294967296)] 110)).alloc (.cells #[.int .u64 1] 110)) 1 (some ⟨w.heap.size, 0, none⟩) ab.length (u64s ab) := by
    rw [hcs, hl2]; exact
    (laid_row' w [.int .u64 ((x : Int) % 4294967296), .int .u64 ((x : Int) / 4294967296)] 110 2 rfl).below ((Below.refl _ _).alloc (Nat.le_refl _) _)
  have hV : Reads ((w.alloc (.cells #[.int .u64 ((x : Int) % 4294967296), .int .u64 ((x : Int) / 4294967296)] 110)).alloc (.cells #[.int .u64 1] 110)) 1 (some ⟨w.heap.size + 1, 0, none⟩) 1 (u64s [1]) := by
    have h := laid_row' (w.alloc (.cells #[.int .u64 ((x : Int) % 4294967296), .int .u64 ((x : Int) / 4294967296)] 110)) [.int .u64 1] 110 1 rfl
    simpa [u64s] using h
  have hB : Below w.heap.size w ((w.alloc (.cells #[.int .u64 ((x : Int) % 4294967296), .int .u64 ((x : Int) / 4294967296)] 110)).alloc (.cells #[.int .u64 1] 110)) := ((Below.refl _ _).alloc (Nat.le_refl _) _).alloc (by simp) _
  generalize ((w.alloc (.cells #[.int .u64 ((x : Int) % 4294967296), .int .u64 ((x : Int) / 4294967296)] 110)).alloc (.cells #[.int .u64 1] 110)) = W0 at *
  have HA := Lib.hid hA
  have HV := Lib.hid hV
  have HB := Lib.hid hB
  have HW2 := Lib.hid hw2
  have HV2 := Lib.hid hv2
  have HL2 := Lib.hid hl2
  clear hA hV hB hw2 hv2 hl2 hcs
  go_loopw [8, 9] (fun t8 t9 W => ∃ (i g : Nat) (v : List Nat), i ≤ k ∧ t9 = .int .i64 i ∧ t8 = .slice (some ⟨g, 0, none⟩) v.length v.length ∧ v.length = 1 + 3 * i ∧ Hid (Reads W 1 (some ⟨g, 0, none⟩) v.length (u64s v)) ∧ Hid (Words v) ∧ Hid (val v = x ^ i) ∧ Hid (Reads W 1 (some ⟨w.heap.size, 0, none⟩) ab.length (u64s ab)) ∧ Hid (Below w.heap.size w W)) (fun _ t9 _ => k - (intOf t9).toNat)
  case atStart => exact ⟨0, w.heap.size + 1, [1], by omega, rfl, rfl, rfl, HV, Lib.hid (words_one 1 (by omega)), Lib.hid (by simp [val]), HA, HB⟩
  case round =>
    clear HA HV HB
    obtain ⟨i, g, v, hi2, rfl, rfl, hvl, HV, HW, HE, HA, HB⟩ := hrel
    have hvb : v.length ≤ 301 := by omega
    have HVL := Lib.hid hvl
    clear hvl
    by_cases hlt : i < k
    · have hT := times_any (some ⟨g, 0, none⟩) (some ⟨w.heap.size, 0, none⟩) v.length 2 v ab wr HV.out HA.out HW.out HW2.out (by omega) (by rw [HL2.out]; omega)
      rw [HL2.out, HE.out, HV2.out] at hT
      have HT := Lib.hid hT
      clear hT
      go_wp2_with (fail)
      refine HT.out.mono ?_
      rintro e w2 ⟨g2, v2, rfl, hb2, hr2, hw2, he2, hl2⟩
      have HR2 := Lib.hid hr2
      have HW3 := Lib.hid hw2
      have HE2 := Lib.hid he2
      have hl3 := Lib.hid (show v2.length = 1 + 3 * (i + 1) by rw [hl2, HVL.out]; omega)
      have HB2 := Lib.hid hb2
      clear hr2 hw2 he2 hl2 hb2
      go_wp2_with (fail)
      go_roundw
      case rel => exact ⟨i + 1, g2, v2, by omega, by go_num, rfl, hl3.out, HR2, HW3, Lib.hid (by rw [HE2.out, Nat.pow_succ]), Lib.hid (HA.out.below HB2.out), Lib.hid (HB.out.trans (HB2.out.mono HB.out.size))⟩
      case measure => simp [intOf]; omega
    · obtain rfl : i = k := by omega
      go_wp2_with (at_make; refine wpList_make_full _ rfl _ _ 160 rfl wr.heap.size 110 i0 (.int .u64 0) 1 Tryz.underlying160 hi hz0 hz1 .i64 .i64 _ _ i rfl rfl rfl rfl ?c3 ?c4 ?c5 ?_)
      case c3 => rw [hz2]; omega
      case c4 => unfold maxLen; omega
      case c5 => exact Nat.le_refl _
      intro w1 hown hgrow
      simp only [cells_u64, Nat.mul_one, madeU64] at hown
      have hb1 : Below wr.heap.size wr w1 := (Below.refl _ _).grown hgrow (Nat.le_refl _) (fun k hk => by cases hk)
      have hs1 := hb1.size
      clear hgrow
      go_wp2_with (at_builtin; refine wpList_append_own _ rfl _ _ 160 rfl wr.heap.size 110 i0 (.int .u64 0) 1 8 Tryz.underlying160 hi hz0 hz1 hz2 rfl (by decide) _ _ _ rfl (hown.alloc _) ⟨w1.heap.size, 0, none⟩ 1 1 [.int .u64 (p : Nat)] rfl rfl (laid_one _ _ _) (one_oneCell rfl) ?d3 ?d4 ?d5 ?_)
      case d3 => unfold maxLen; omega
      case d4 => omega
      case d5 => simp; omega
      intro v' w2 hown' hgrow _
      have hb2 : Below wr.heap.size wr w2 := (hb1.alloc hs1 _).grown hgrow (by simp; omega) (fun k hk => (hown.lt k hk).1)
      rw [show u64s (List.replicate i 0) ++ [.int .u64 (p : Int)] = u64s (List.replicate i 0 ++ [p]) by simp [u64s]] at hown'
      obtain ⟨A2, c2, rfl, hc2, hm2, hr2⟩ := IsSlice.of_own hown'
      have hwW : Words (List.replicate i 0 ++ [p]) := words_app (words_zeros i) (words_one p hp)
      have hvW : val (List.replicate i 0 ++ [p]) = 4294967296 ^ i * p := by rw [val_append, val_zeros, List.length_replicate]; simp [val]
      have hlW : (List.replicate i 0 ++ [p]).length = i + 1 := by simp
      generalize List.replicate i 0 ++ [p] = q at *
      have HG := greater_any (some ⟨g, 0, none⟩) A2 v.length c2 v q w2 (HV.out.below hb2) (by rw [hlW]; exact hr2) HW.out hwW (by omega) (by omega)
      rw [hlW, hvW, HE.out] at HG
      have HG2 := Lib.hid HG
      have HB2 := Lib.hid hb2
      clear HG hown' hgrow hr2 hvW hlW hwW hown hb1 hb2
      go_wp2_with (fail)
      refine HG2.out.mono ?_
      rintro e w3 ⟨rfl, hb3⟩
      go_wp2_with (fail)
      go_ret
      exact ⟨rfl, HB.out.trans ((HB2.out.trans (hb3.mono HB2.out.size)).mono HB.out.size)⟩

set_option maxHeartbeats 1000000 in
theorem fraction_any (p k r : Nat) (w : World) (hp : p < 4294967296) (hk : k ≤ 100) (hr : Root p k r) (hr2 : r < 137438953472) :
    Calls Tryz.prog 136 #[.int .u64 p, .int .i64 k] w (Ret w (.int .u32 (r % 4294967296 : Nat))) := by
  have hlow : ∀ m, m ≤ r → gtB (m ^ k) (4294967296 ^ k * p) = false := fun m h => by
    have := Nat.pow_le_pow_left h k
    have := hr.1
    unfold gtB; simp; omega
  have hhigh : ∀ m, r < m → gtB (m ^ k) (4294967296 ^ k * p) = true := fun m h => by
    have := Nat.pow_le_pow_left (show r + 1 ≤ m by omega) k
    have := hr.2
    unfold gtB; simp; omega
  have HL := Lib.hid hlow
  have HH := Lib.hid hhigh
  clear hlow hhigh hr
  go_enter Tryz.func136, Tryz.ntmps136
  go_wp2_with (fail)
  go_loopw [5, 6, 7] (fun t5 t6 _ W => ∃ low high : Nat, low ≤ r ∧ r < high ∧ high ≤ 137438953472 ∧ t5 = .int .u64 low ∧ t6 = .int .u64 high ∧ Hid (Below w.heap.size w W)) (fun t5 t6 _ _ => (intOf t6).toNat - (intOf t5).toNat)
  case atStart => exact ⟨0, 137438953472, by omega, by omega, by omega, rfl, rfl, Lib.hid (Below.refl _ _)⟩
  case round =>
    obtain ⟨low, high, h1, h2, h3, rfl, rfl, HB⟩ := hrel
    by_cases hlt : 1 < high - low
    · have hmid : ((low : Int) + high) / 2 = (((low + high) / 2 : Nat) : Int) := by omega
      have hm1 : (low + high) / 2 < high := by omega
      have hm2 : low < (low + high) / 2 := by omega
      have hm3 : (low + high) / 2 < 137438953472 := by omega
      generalize (low + high) / 2 = m at *
      have hab := above_any m p k wr hm3 hp hk
      by_cases hm : m ≤ r
      · rw [HL.out m hm] at hab
        have HAB := Lib.hid hab
        clear hab
        go_wp2_with (fail)
        refine HAB.out.mono ?_
        rintro e w2 ⟨rfl, hb2⟩
        go_wp2_with (fail)
        go_roundw
        case rel => exact ⟨m, high, hm, h2, h3, rfl, rfl, Lib.hid (HB.out.trans (hb2.mono HB.out.size))⟩
        case measure => simp [intOf]; omega
      · rw [HH.out m (by omega)] at hab
        have HAB := Lib.hid hab
        clear hab
        go_wp2_with (fail)
        refine HAB.out.mono ?_
        rintro e w2 ⟨rfl, hb2⟩
        go_wp2_with (fail)
        go_roundw
        case rel => exact ⟨low, m, h1, by omega, by omega, rfl, rfl, Lib.hid (HB.out.trans (hb2.mono HB.out.size))⟩
        case measure => simp [intOf]; omega
    · obtain rfl : low = r := by omega
      go_wp2_with (fail)
      go_ret
      exact ⟨ret_int (by omega), HB.out⟩
end Go.Proofs.YtjajoiahgfafgaaGreatDoor
end

/- Two slices of the call's own that grow side by side: append tells where its result lies. -/
section
namespace Go.Proofs.YtjajoiahgfafgaaGreatDoor
open Go.RowKit

theorem own_base {w : World} {base base' : Nat} {e : TypeId} {size n : Nat} {v : Value} {xs : List Value} (h : w.ownsRow base e size v n xs) (hb : base' ≤ base) : w.ownsRow base' e size v n xs :=
  ⟨h.1, h.2.imp id fun ⟨g, cap, cur, hv, hg, hr⟩ => ⟨g, cap, cur, hv, Nat.le_trans hb hg, hr⟩⟩

/-- v' lies where v lay, or in a block that is new. -/
def Lies (w : World) (v v' : Value) : Prop := ∀ k, v'.ownBlock = some k → v.ownBlock = some k ∨ w.heap.size ≤ k
/-- no block holds both -/
def Apart (v u : Value) : Prop := ∀ k, v.ownBlock = some k → u.ownBlock ≠ some k
theorem Apart.symm {v u : Value} (h : Apart v u) : Apart u v := fun k hu hv => h k hv hu
theorem Apart.nil (u : Value) (n c : Nat) : Apart (.slice none n c) u := fun k h => by cases h
theorem Apart.lies {w : World} {v v' u : Value} {base : Nat} {e : TypeId} {size n : Nat} {xs : List Value} (h : Apart v u) (hl : Lies w v v') (hu : w.ownsRow base e size u n xs) : Apart v' u := by
  intro k hk he
  rcases hl k hk with h1 | h1
  · exact h k h1 he
  · have := (hu.lt k he).2; omega
theorem Apart.kept {w w' : World} {v u : Value} {base : Nat} {e : TypeId} {size n : Nat} {xs : List Value} (h : Apart v u) (hu : w.ownsRow base e size u n xs) (hg : w.grownBy w' v.ownBlock) : w'.ownsRow base e size u n xs :=
  hu.kept hg (by
    cases hv : u.ownBlock with
    | none => exact .inl rfl
    | some k => exact .inr (fun e => h k e.symm hv))

theorem wpList_append_two {P : Program} {w : World} {ops : Array Oper} {rest : List Oper} {o : Oper} {a : Act} {Q : Exit → Act → World → Prop} (hgd : o.guard = none) (s x : Operand) (t : TypeId)
    (ho : o.op = .call { callee := .builtin .append, args := #[s, x], argTypes := #[t, t] })
    (base : Nat) (e : TypeId) (i : TypeInfo) (z : Value) (size bytes : Nat) (ht : P.underlying t = some (.slice e)) (hi : P.info? e = some i) (hz : i.zero = some z)
    (hsize : i.size = size) (hby : i.bytes = bytes) (hzs : z.cells.size = size) (hsz : 0 < size)
    (v : Value) (n : Nat) (xs : List Value) (hs : a.eval s = v) (hown : w.ownsRow base e size v n xs)
    (ad : Addr) (m c : Nat) (news : List Value) (hx : a.eval x = .slice (some ad) m c) (hl : news.length = m * size) (hnews : ∀ j u, news[j]? = some u → w.cell? (ad.add j) = some u) (h1 : ∀ u ∈ news, u.oneCell' = true)
    (h63 : n + m ≤ maxLen) (hbytes : (n + m) * bytes ≤ 140737488355328) (hbase : base ≤ w.heap.size)
    (h : ∀ v' w', w'.ownsRow base e size v' (n + m) (xs ++ news) → w.grownBy w' v.ownBlock → Lies w v v' → wpList P ops Q rest (a.put o.dst v') w') : wpList P ops Q (o :: rest) a w := by
  rcases hown.2 with ⟨hv, hn⟩ | ⟨g, cap, cur, hv, hbg, hg, hnc, hcm, hcs, htake⟩
  · subst hv
    subst hn
    have hx0 : xs = [] := List.eq_nil_of_length_eq_zero (by simpa using hown.1)
    subst hx0
    exact wpList_append_own w hgd s x t ho w.heap.size e i z size bytes ht hi hz hsize hby hzs hsz _ _ _ hs (World.ownsRow_nil _ _ _ _) ad m c news hx hl hnews h1 h63 hbytes (Nat.le_refl _)
      fun v' w' h2 h3 _ => h v' w' (own_base h2 hbase) h3 (fun k hk => .inr (h2.lt k hk).1)
  · subst hv
    by_cases hroom : n + m ≤ cap
    · exact wpList_append_fits w hgd s x t ho base e i size ht hi hsize g n cap xs hs hown ad m c news hx hl hnews h1 hroom fun w' h2 h3 => h _ w' h2 h3 (fun k hk => .inl hk)
    · exact wpList_append_grows w hgd s x t ho e i z size bytes ht hi hz hsize hby hzs hsz (some ⟨g, 0, none⟩) n cap xs hs (fun e => by cases e) hown.1 (fun b hb j u hu => by
        injection hb with hb
        subst hb
        exact hown.cells (g := g) rfl j u hu) ad m c news hx hl hnews h1 (by omega) h63 hbytes
        fun v' w' h2 h3 => h v' w' (own_base h2 hbase) ⟨h3.os, h3.tape, h3.output, h3.size, fun k hk _ => h3.block k hk (by simp)⟩ (fun k hk => .inr (h2.lt k hk).1)
end Go.Proofs.YtjajoiahgfafgaaGreatDoor
end

/- hawserref04.primes, Table: the first primes; the first values and the rounds' constants. -/
section
namespace Go.Proofs.YtjajoiahgfafgaaGreatDoor
open Go.RowKit Plain

/-- a new row of cells -/
def RowOut (w : World) (e0 : TypeId) (n : Nat) (xs : List Value) (e : Ending) (w' : World) : Prop := ∃ v, e = .returned v ∧ w'.ownsRow w.heap.size e0 1 v n xs ∧ Below w.heap.size w w'

theorem all_take_succ {α : Type} (l : List α) (p : α → Bool) (k : Nat) (h : k < l.length) : (l.take (k + 1)).all p = ((l.take k).all p && p l[k]) := by
  rw [List.take_succ_eq_append_getElem h, List.all_append]; simp

set_option maxRecDepth 100000 in
set_option maxHeartbeats 1000000 in
theorem primes_any (w : World) : Calls Tryz.prog 135 #[.int .i64 64] w (RowOut w 110 64 (u64s PRIMES)) := by
  obtain ⟨i0, hi, hz0, hz1, hz2⟩ := info_parts info_u64
  go_enter Tryz.func135, Tryz.ntmps135
  go_wp2_with (fail)
  go_loopw [3, 4] (fun t3 t4 W => ∃ n : Nat, n ≤ 310 ∧ t4 = .int .u64 ((n + 2 : Nat) : Int) ∧ W.ownsRow w.heap.size 110 1 t3 (sieve n).length (u64s (sieve n)) ∧ Hid (Below w.heap.size w W)) (fun _ t4 _ => 312 - (intOf t4).toNat)
  case atStart => exact ⟨0, by omega, rfl, World.ownsRow_nil _ _ _ _, Lib.hid (Below.refl _ _)⟩
  case round =>
    obtain ⟨n, hn, rfl, hown, HB⟩ := hrel
    obtain ⟨A, c, rfl, hc, hm, hr⟩ := IsSlice.of_own hown
    by_cases hlt : n < 310
    · have hl64 := sieve_lt hlt
      have hpos := Lib.hid (sieve_pos n)
      have hnext : sieve (n + 1) = sieve1 (sieve n) (n + 2) := rfl
      have HN := Lib.hid hnext
      clear hnext
      have e2 : ((n + 2 : Nat) : Int) = (n : Int) + 2 := by omega
      rw [e2]
      generalize sieve n = l at *
      clear e2
      go_wp2_with (fail)
      go_loop [5, 6] (fun t5 t6 => ∃ i : Nat, i ≤ l.length ∧ t6 = .int .i64 i ∧ t5 = .bool ((l.take i).all (fun q => (n + 2) % q != 0))) (fun _ t6 => l.length - (intOf t6).toNat)
      case atStart => exact ⟨0, by omega, rfl, by simp⟩
      case round =>
        obtain ⟨i, hil, rfl, rfl⟩ := hrel
        by_cases hin : i < l.length
        · obtain ⟨ad, rfl, ca⟩ := hr.u64_at hin
          have hq := hpos.out (l.getD i 0) (by rw [List.getD_eq_getElem?_getD, List.getElem?_eq_getElem hin]; exact List.getElem_mem hin)
          have hs := all_take_succ l (fun q => (n + 2) % q != 0) i hin
          rw [show l[i] = l.getD i 0 by rw [List.getD_eq_getElem?_getD, List.getElem?_eq_getElem hin]; rfl] at hs
          generalize l.getD i 0 = q at *
          have HS := Lib.hid hs
          clear hs
          generalize (l.take i).all (fun q => (n + 2) % q != 0) = b at *
          have q0 : ((q : Int) == 0) = false := by simp; omega
          have hm : ((n : Int) + 2) % q = (((n + 2) % q : Nat) : Int) := by push_cast; rfl
          by_cases hz : (n + 2) % q = 0
          · have hB : ((((n : Int) + 2) % q) == 0) = true := by rw [hm, hz]; rfl
            clear hm
            go_wp2_with (fail)
            go_round
            case rel => exact ⟨i + 1, by omega, by go_num, by rw [HS.out, hz]; simp⟩
            case measure => simp [intOf]; omega
          · have hB : ((((n : Int) + 2) % q) == 0) = false := by rw [hm]; simp; omega
            clear hm
            go_wp2_with (fail)
            go_round
            case rel => exact ⟨i + 1, by omega, by go_num, by rw [HS.out]; simp [hz]⟩
            case measure => simp [intOf]; omega
        · obtain rfl : i = l.length := by omega
          rw [List.take_of_length_le (Nat.le_refl _)]
          rcases hb : l.all (fun q => (n + 2) % q != 0) with _ | _
          · have hN2 := HN.out
            unfold sieve1 at hN2
            rw [hb] at hN2
            have HN2 := Lib.hid hN2
            clear hb hN2 HN
            go_wp2_with (fail)
            go_roundw
            case rel => exact ⟨n + 1, by omega, by go_num, by rw [HN2.out]; exact hown, HB⟩
            case measure => simp [intOf]; omega
          · have hN2 := HN.out
            unfold sieve1 at hN2
            rw [hb] at hN2
            have HN2 := Lib.hid hN2
            clear hb hN2 HN
            go_wp2_with (at_builtin; refine wpList_append_own _ rfl _ _ 160 rfl w.heap.size 110 i0 (.int .u64 0) 1 8 Tryz.underlying160 hi hz0 hz1 hz2 rfl (by decide) _ _ _ rfl (hown.alloc _) ⟨wr.heap.size, 0, none⟩ 1 1 [.int .u64 ((n : Int) + 2)] rfl rfl (laid_one _ _ _) (one_oneCell rfl) ?d3 ?d4 ?d5 ?_)
            case d3 => unfold maxLen; omega
            case d4 => omega
            case d5 => have := HB.out.size; simp; omega
            intro v' w2 hown' hgrow _
            have hb2 := (HB.out.alloc HB.out.size (.cells #[.int .u64 ((n : Int) + 2)] 110)).grown hgrow (by have := HB.out.size; simp; omega) (fun k hk => (hown.lt k hk).1)
            have HB2 := Lib.hid hb2
            clear hgrow hb2
            go_wp2_with (fail)
            go_roundw
            case rel => exact ⟨n + 1, by omega, by go_num, by rw [HN2.out]; simpa [u64s] using hown', HB2⟩
            case measure => simp [intOf]; omega
    · obtain rfl : n = 310 := by omega
      rw [sieve_310] at hr hown ⊢
      have hl : PRIMES.length = 64 := rfl
      rw [hl] at hr hown ⊢
      go_wp2_with (fail)
      go_ret
      exact ⟨_, rfl, hown, HB.out⟩

theorem info_u32 : (Tryz.prog.info? 100).map (fun i => (i.zero, i.size, i.bytes)) = some (some (.int .u32 0), 1, 4) := by kernel_rfl
theorem wordsV_snoc (l : List UInt32) (k : Nat) (h : k < l.length) : wordsV (l.take (k + 1)) = wordsV (l.take k) ++ [.int .u32 (V (l.getD k 0))] := by
  rw [List.take_succ_eq_append_getElem h, List.getD_eq_getElem?_getD, List.getElem?_eq_getElem h]
  simp only [wordsV, List.map_append, List.map_cons, List.map_nil]; rfl

/-- the two rows of the table -/
def TableOut (w : World) (e : Ending) (w' : World) : Prop := ∃ v u, e = .returned (.tuple #[v, u]) ∧ w'.ownsRow w.heap.size 100 1 v 8 (wordsV h0L) ∧ w'.ownsRow w.heap.size 100 1 u 64 (wordsV KK) ∧ Below w.heap.size w w'

set_option maxRecDepth 100000 in
set_option maxHeartbeats 1000000 in
theorem Table_any (w : World) : Calls Tryz.prog 109 #[] w (TableOut w) := by
  obtain ⟨i0, hi, hz0, hz1, hz2⟩ := info_parts info_u32
  go_enter Tryz.func109, Tryz.ntmps109
  go_wp2_with (fail)
  refine (primes_any _).mono ?_
  rintro e w1 ⟨vp, rfl, hp, hbp⟩
  obtain ⟨Ap, cp, rfl, hcp, hmp, hrp⟩ := IsSlice.of_own hp
  have HP := Lib.hid hrp
  have HBP := Lib.hid hbp
  clear hp hbp hrp
  go_wp2_with (fail)
  go_loopw [2, 3, 5] (fun t2 t3 t5 W => ∃ n : Nat, n ≤ 64 ∧ t5 = .int .i64 n ∧ W.ownsRow w1.heap.size 100 1 t2 (min n 8) (wordsV (h0L.take n)) ∧ W.ownsRow w1.heap.size 100 1 t3 n (wordsV (KK.take n)) ∧ Apart t2 t3 ∧ Hid (Below w1.heap.size w1 W)) (fun _ _ t5 _ => 64 - (intOf t5).toNat)
  case atStart => exact ⟨0, by omega, rfl, World.ownsRow_nil _ _ _ _, World.ownsRow_nil _ _ _ _, Apart.nil _ _ _, Lib.hid (Below.refl _ _)⟩
  case round =>
    obtain ⟨n, hn, rfl, hown2, hown3, hap, HB⟩ := hrel
    by_cases hlt : n < 64
    · obtain ⟨ad, rfl, ca⟩ := (HP.out.below HB.out).u64_at (l := PRIMES) (k := n) (by simpa [PRIMES] using hlt)
      have hpl := primes_lt n hlt
      obtain ⟨hr3, hr3b, hr3c⟩ := roots3 n hlt
      have hF3 := fun W => fraction_any (PRIMES.getD n 0) 3 (R3.getD n 0) W hpl (by omega) hr3 hr3b
      rw [hr3c] at hF3
      have HF3 := Lib.hid hF3
      clear hF3 hr3 hr3b hr3c
      by_cases h8 : n < 8
      · obtain ⟨hr2, hr2b, hr2c⟩ := roots2 n h8
        have hF2 := fun W => fraction_any (PRIMES.getD n 0) 2 (R2.getD n 0) W hpl (by omega) hr2 hr2b
        rw [hr2c] at hF2
        have HF2 := Lib.hid hF2
        have cP := fun W (hW : Below wr.heap.size wr W) => (hW.cell (World.block_lt_of_cell? _ _ ca)).trans ca
        have HCP := Lib.hid cP
        clear hF2 hr2 hr2b hr2c cP
        generalize hpn : PRIMES.getD n 0 = p at *
        have HPN := Lib.hid hpn
        clear hpn
        go_wp2_with (fail)
        refine (HF2.out _).mono ?_
        rintro e w2 ⟨rfl, hb2⟩
        have HB2 := Lib.hid hb2
        have hs2 := hb2.size
        have hsw := HB.out.size
        have hown2' := own_below hown2 hb2
        have hown3' := own_below hown3 hb2
        clear hb2 hown2 hown3 ca
        go_wp2_with (at_builtin; refine wpList_append_two rfl _ _ 139 rfl w1.heap.size 100 i0 (.int .u32 0) 1 4 Tryz.underlying139 hi hz0 hz1 hz2 rfl (by decide) _ _ _ rfl (hown2'.alloc _) ⟨w2.heap.size, 0, none⟩ 1 1 [.int .u32 ((h0L.getD n 0).toNat : Int)] rfl rfl (laid_one _ _ _) (one_oneCell rfl) ?d3 ?d4 ?d5 ?_)
        case d3 => unfold maxLen; omega
        case d4 => omega
        case d5 => simp; omega
        intro v2 w3 hv2 hg3 hl3
        have hu3 := hap.kept (hown3'.alloc (.cells #[.int .u32 ((h0L.getD n 0).toNat : Int)] 100)) hg3
        have hap3 := hap.lies hl3 (hown3'.alloc (.cells #[.int .u32 ((h0L.getD n 0).toNat : Int)] 100))
        have hb3 : Below w1.heap.size w1 w3 := ((HB.out.trans (HB2.out.mono hsw)).alloc (by omega) (.cells #[.int .u32 ((h0L.getD n 0).toNat : Int)] 100)).grown hg3 (by simp; omega) (fun k hk => (hown2'.lt k hk).1)
        obtain ⟨ad', e', ca'⟩ := (HP.out.below hb3).u64_at (l := PRIMES) (k := n) (by simpa [PRIMES] using hlt)
        injection e' with e'
        subst e'
        rw [HPN.out] at ca'
        clear hg3 hl3
        go_wp2_with (fail)
        refine (HF3.out _).mono ?_
        rintro e w4 ⟨rfl, hb4⟩
        have HB4 := Lib.hid hb4
        have hs4 := hb4.size
        have hown3a := own_below hu3 hb4
        have hown2a := own_below hv2 hb4
        have hsw4 := hb3.size
        clear hb4
        go_wp2_with (at_builtin; refine wpList_append_two rfl _ _ 139 rfl w1.heap.size 100 i0 (.int .u32 0) 1 4 Tryz.underlying139 hi hz0 hz1 hz2 rfl (by decide) _ _ _ rfl (hown3a.alloc _) ⟨w4.heap.size, 0, none⟩ 1 1 [.int .u32 ((KK.getD n 0).toNat : Int)] rfl rfl (laid_one _ _ _) (one_oneCell rfl) ?e3a ?e4a ?e5a ?_)
        case e3a => unfold maxLen; omega
        case e4a => omega
        case e5a => simp; omega
        intro v5 w5 hv5 hg5 hl5
        have hu5 := (hap3).symm.kept (hown2a.alloc (.cells #[.int .u32 ((KK.getD n 0).toNat : Int)] 100)) hg5
        have hap5 := (hap3).symm.lies hl5 (hown2a.alloc (.cells #[.int .u32 ((KK.getD n 0).toNat : Int)] 100))
        have hb5 : Below w1.heap.size w1 w5 := ((hb3.trans (HB4.out.mono hsw4)).alloc (by omega) (.cells #[.int .u32 ((KK.getD n 0).toNat : Int)] 100)).grown hg5 (by simp; omega) (fun k hk => (hown3a.lt k hk).1)
        have HB5 := Lib.hid hb5
        clear hg5 hl5 hb5
        go_wp2_with (fail)
        go_roundw
        case rel => exact ⟨n + 1, by omega, by go_num, by rw [wordsV_snoc h0L n (by simpa [h0L] using h8), show min (n + 1) 8 = min n 8 + 1 by omega]; exact hu5, by rw [wordsV_snoc KK n (by simpa [KK] using hlt)]; exact hv5, hap5.symm, HB5⟩
        case measure => simp [intOf]; omega
      · generalize PRIMES.getD n 0 = p at *
        go_wp2_with (fail)
        refine (HF3.out _).mono ?_
        rintro e w4 ⟨rfl, hb4⟩
        have HB4 := Lib.hid hb4
        have hs4 := hb4.size
        have hown3a := own_below hown3 hb4
        have hown2a := own_below hown2 hb4
        have hsw4 := HB.out.size
        clear hb4
        go_wp2_with (at_builtin; refine wpList_append_two rfl _ _ 139 rfl w1.heap.size 100 i0 (.int .u32 0) 1 4 Tryz.underlying139 hi hz0 hz1 hz2 rfl (by decide) _ _ _ rfl (hown3a.alloc _) ⟨w4.heap.size, 0, none⟩ 1 1 [.int .u32 ((KK.getD n 0).toNat : Int)] rfl rfl (laid_one _ _ _) (one_oneCell rfl) ?e3b ?e4b ?e5b ?_)
        case e3b => unfold maxLen; omega
        case e4b => omega
        case e5b => simp; omega
        intro v5 w5 hv5 hg5 hl5
        have hu5 := (hap).symm.kept (hown2a.alloc (.cells #[.int .u32 ((KK.getD n 0).toNat : Int)] 100)) hg5
        have hap5 := (hap).symm.lies hl5 (hown2a.alloc (.cells #[.int .u32 ((KK.getD n 0).toNat : Int)] 100))
        have hb5 : Below w1.heap.size w1 w5 := ((HB.out.trans (HB4.out.mono hsw4)).alloc (by omega) (.cells #[.int .u32 ((KK.getD n 0).toNat : Int)] 100)).grown hg5 (by simp; omega) (fun k hk => (hown3a.lt k hk).1)
        have HB5 := Lib.hid hb5
        clear hg5 hl5 hb5
        go_wp2_with (fail)
        go_roundw
        case rel => exact ⟨n + 1, by omega, by go_num, by rw [List.take_of_length_le (by simp [h0L]; omega), show min (n + 1) 8 = min n 8 by omega]; rw [List.take_of_length_le (by simp [h0L]; omega)] at hu5; exact hu5, by rw [wordsV_snoc KK n (by simpa [KK] using hlt)]; exact hv5, hap5.symm, HB5⟩
        case measure => simp [intOf]; omega
    · obtain rfl : n = 64 := by omega
      have e8 : min 64 8 = 8 := rfl
      rw [e8] at hown2
      go_wp2_with (fail)
      go_ret2
      exact ⟨_, _, rfl, own_base hown2 HBP.out.size, own_base hown3 HBP.out.size, HBP.out.trans (HB.out.mono HBP.out.size)⟩
end Go.Proofs.YtjajoiahgfafgaaGreatDoor
end

/- hawserref04.sum, Sum: the strong fingerprint, by the document. -/
section
namespace Go.Proofs.YtjajoiahgfafgaaGreatDoor
open Go.RowKit Plain

attribute [local go_sem] V_xor V_and V_or V_not V_add V_wadd V_wrap V_shr3 V_shr10

theorem runB_succ (k : Nat) (h : S8) (l : List UInt8) : runB (k + 1) h l = round (runB k h l) ((l.drop (64 * k)).take 64) := by
  rw [runB_add]; rfl
/-- the first j bytes of a word, as a number -/
def accN (b : List UInt8) (i : Nat) : Nat → Nat
  | 0 => 0
  | j + 1 => accN b i j * 256 + (b.getD (4 * i + j) 0).toNat
theorem accN_lt (b : List UInt8) (i j : Nat) : accN b i j < 256 ^ j := by
  induction j with
  | zero => simp [accN]
  | succ j ih =>
    have := (b.getD (4 * i + j) 0).toNat_lt
    rw [Nat.pow_succ]
    simp only [accN]
    omega
theorem accN_4 (b : List UInt8) (i : Nat) : ((accN b i 4 : Nat) : Int) = V (wordAt b i) := by
  have h := accN_lt b i 4
  unfold wordAt word
  rw [V_of]
  simp only [accN, Nat.add_zero] at h ⊢
  omega
theorem madeU32 (n : Nat) : (madeCells #[Value.int .u32 0] n).toList = wordsV (List.replicate n 0) := by
  apply List.ext_getElem?
  intro k
  simp only [madeCells, wordsV, List.getElem?_map, List.getElem?_replicate]
  by_cases h : k < n
  · simp [h, Nat.mod_one, V]
  · simp [h]
theorem cells_u32 (n : Int) : (Value.int .u32 n).cells = #[.int .u32 n] := rfl
theorem flat_bytes (v : S8) : (list8 v).flatMap bytes4 = out8 v := by simp [list8, out8]
theorem bytes4_take (x : UInt32) (j : Nat) (hj : j < 4) : (bytes4 x).take (j + 1) = (bytes4 x).take j ++ [UInt8.ofNat (x.toNat / 2 ^ (24 - 8 * j))] := by
  match j, hj with
  | 0, _ => rfl
  | 1, _ => rfl
  | 2, _ => rfl
  | 3, _ => simp [bytes4]

/-- a row whose first i words are known -/
def Firsts (b : List UInt8) (l : List UInt32) (i : Nat) : Prop := l.length = 64 ∧ (∀ j, j < i → l.getD j 0 = WW b j) ∧ ∀ j, i ≤ j → l.getD j 0 = 0
theorem Firsts.next {b : List UInt8} {l : List UInt32} {i : Nat} (h : Firsts b l i) (hi : i < 64) : Firsts b (l.set i (WW b i)) (i + 1) := by
  refine ⟨by rw [List.length_set]; exact h.1, fun j hj => ?_, fun j hj => ?_⟩
  · by_cases e : j = i
    · subst e; simp [List.getD_eq_getElem?_getD, h.1, hi]
    · rw [List.getD_eq_getElem?_getD, List.getElem?_set_ne (Ne.symm e), ← List.getD_eq_getElem?_getD]; exact h.2.1 j (by omega)
  · rw [List.getD_eq_getElem?_getD, List.getElem?_set_ne (by omega), ← List.getD_eq_getElem?_getD]; exact h.2.2 j (by omega)
theorem Firsts.done {b : List UInt8} {l : List UInt32} (h : Firsts b l 64) : l = sched b 64 := by
  apply List.ext_getElem (by rw [h.1, sched_length])
  intro j h1 h2
  have := h.2.1 j (by rw [h.1] at h1; exact h1)
  rw [List.getD_eq_getElem?_getD, List.getElem?_eq_getElem h1] at this
  unfold WW at this
  rw [List.getD_eq_getElem?_getD, List.getElem?_eq_getElem h2] at this
  exact this

set_option maxRecDepth 100000 in
set_option maxHeartbeats 1000000 in
theorem refsum_any (F K : Option Addr) (cf ck : Nat) (s : List UInt8) (w : World) (hs : s.length ≤ 70368744177664) (hf : Reads w 1 F 8 (wordsV h0L)) (hk : Reads w 1 K 64 (wordsV KK)) :
    Calls Tryz.prog 110 #[.string ⟨s.toArray⟩, .slice F 8 cf, .slice K 64 ck] w (Ret w (.string ⟨(sha s).toArray⟩)) := by
  obtain ⟨i0, hi, hz0, hz1, hz2⟩ := info_parts info_u32'
  obtain ⟨i1, hi1, hy0, hy1, hy2⟩ := info_parts info_byte8
  obtain ⟨fa, e', hcF⟩ := hf.2 (by omega)
  subst e'
  have HCF := Lib.hid hcF
  have hpl : ∃ m, (s ++ padding s.length).length = 64 * m ∧ m = (s.length + 72) / 64 := by
    refine ⟨_, ?_, rfl⟩
    have hn : noughts s.length = (119 - s.length % 64) % 64 := rfl
    simp only [padding, List.length_append, List.length_cons, List.length_replicate, size8_length]
    omega
  obtain ⟨m, hm, hmm⟩ := hpl
  have hsha : sha s = out8 (runB m H0 (s ++ padding s.length)) := by rw [hmm]; rfl
  have HSHA := Lib.hid hsha
  clear hcF hsha
  go_enter Tryz.func110, Tryz.ntmps110
  go_wp2_with (at_builtin; refine wpList_append_own _ rfl _ _ 139 rfl w.heap.size 100 i0 (.int .u32 0) 1 4 Tryz.underlying139 hi hz0 hz1 hz2 rfl (by decide) _ _ _ rfl (own_empty w _) fa 8 cf (wordsV h0L) rfl rfl ?c1 ?c2 ?c3 ?c4 ?c5 ?_)
  case c1 => exact fun j u hj => (((Below.refl w.heap.size w).alloc (Nat.le_refl _) _).cell (World.block_lt_of_cell? _ _ (HCF.out j u hj))).trans (HCF.out j u hj)
  case c2 => intro u hu; simp only [wordsV, List.mem_map] at hu; obtain ⟨_, _, rfl⟩ := hu; rfl
  case c3 => unfold maxLen; omega
  case c4 => omega
  case c5 => simp
  intro v1 w1 hown hgrow _
  have hb1 : Below w.heap.size w w1 := ((Below.refl w.heap.size w).alloc (Nat.le_refl _) _).grown hgrow (by simp) (fun k hk => ((own_empty w 100).lt k hk).1)
  have hP := padded_any s w1 hs
  generalize s ++ padding s.length = P at *
  have HP := Lib.hid hP
  have HB1 := Lib.hid hb1
  have HM := Lib.hid hm
  have hPl : P.length ≤ 70368744178000 := by omega
  clear hgrow hb1 hP hmm
  go_wp2_with (fail)
  refine HP.out.mono ?_
  rintro e w2 ⟨rfl, hb2⟩
  have hown2 := own_below hown hb2
  have HB2 := Lib.hid (HB1.out.trans (hb2.mono HB1.out.size))
  clear hb2 hown HP HB1 hm
  go_wp2_with (fail)
  go_loopw [7, 9, 10, 11, 12, 13, 14] (fun t7 t9 _ _ _ _ _ W => ∃ k : Nat, k ≤ m ∧ t9 = .int .i64 (64 * (k : Int)) ∧ W.ownsRow w.heap.size 100 1 t7 8 (wordsV (list8 (runB k H0 P))) ∧ Hid (Below w.heap.size w W)) (fun _ t9 _ _ _ _ _ _ => 64 * m - (intOf t9).toNat)
  case atStart => exact ⟨0, by omega, rfl, hown2, HB2⟩
  case round =>
    clear hown2 HB2
    obtain ⟨k, hkm, rfl, hown, HB⟩ := hrel
    obtain ⟨wo, rfl⟩ : ∃ wo : World, wo = wr := ⟨_, rfl⟩
    by_cases hlt : k < m
    · have hml : 64 * k + 64 ≤ P.length := by have := HM.out; omega
      have hkl : 64 * k < P.length := by omega
      have hrs := runB_succ k H0 P
      have hbl : ((P.drop (64 * k)).take 64).length = 64 := by simp; omega
      have hbg : ∀ j, j < 64 → P[64 * k + j]? = some (((P.drop (64 * k)).take 64).getD j 0) := fun j hj => by
        rw [List.getD_eq_getElem?_getD, List.getElem?_take_of_lt hj, List.getElem?_drop, List.getElem?_eq_getElem (by omega)]; rfl
      generalize (P.drop (64 * k)).take 64 = b at *
      generalize runB k H0 P = hv at *
      have HRS := Lib.hid hrs
      have HBL := Lib.hid hbl
      have HBG := Lib.hid hbg
      clear hrs hbl hbg
      go_wp2_with (at_make; refine wpList_make_full _ rfl _ _ 139 rfl wo.heap.size 100 i0 (.int .u32 0) 1 Tryz.underlying139 hi hz0 hz1 .i64 .i64 _ _ 64 rfl rfl rfl rfl ?m3 ?m4 ?m5 ?_)
      case m3 => rw [hz2]; omega
      case m4 => unfold maxLen; omega
      case m5 => exact Nat.le_refl _
      intro w3 hrow hgr
      have hb3 : Below wo.heap.size wo w3 := (Below.refl _ _).grown hgr (Nat.le_refl _) (fun k hk => by cases hk)
      simp only [cells_u32, Nat.mul_one, madeU32] at hrow
      have HOWN3 := Lib.hid hown
      have HF : Hid (Firsts b (List.replicate 64 0) 0) := Lib.hid ⟨by simp, fun j hj => by omega, fun j _ => by simp only [List.getD_eq_getElem?_getD, List.getElem?_replicate]; split <;> rfl⟩
      have HB3 := Lib.hid hb3
      clear hgr hb3 hown
      go_wp2_with (fail)
      go_loopw [11, 12, 13, 14] (fun t11 _ _ _ W => ∃ (i : Nat) (l : List UInt32), i ≤ 64 ∧ t11 = .int .i64 i ∧ W.ownsRow wo.heap.size 100 1 (.slice (some ⟨wo.heap.size, 0, none⟩) 64 64) 64 (wordsV l) ∧ Hid (Firsts b l i) ∧ Hid (Below wo.heap.size wo W)) (fun t11 _ _ _ _ => 64 - (intOf t11).toNat)
      case atStart => exact ⟨0, _, by omega, rfl, hrow, HF, HB3⟩
      case round =>
        clear hrow HF HB3
        obtain ⟨i, l, hi64, rfl, hrow, HF, HB3⟩ := hrel
        by_cases hli : i < 64
        · have hB64 : decide ((i : Int) < 64) = true := by simp; omega
          by_cases h16 : i < 16
          · have hB16 : decide ((i : Int) < 16) = true := by simp; omega
            obtain ⟨w4, rfl⟩ : ∃ w4 : World, w4 = wr := ⟨_, rfl⟩
            have hz : l.getD i 0 = 0 := HF.out.2.2 i (Nat.le_refl _)
            have hll : l.length = 64 := HF.out.1
            have hset0 : wordsV l = (wordsV l).set i (.int .u32 (accN b i 0 : Nat)) := by
              have h1 : (wordsV l)[i]? = some (.int .u32 0) := by simp [wordsV, hll, hli, List.getD_eq_getElem?_getD] at hz ⊢; rw [hz]; rfl
              apply List.ext_getElem?
              intro j
              by_cases e : j = i
              · subst e; rw [h1, List.getElem?_set_self (by simp [wordsV]; omega)]; rfl
              · rw [List.getElem?_set_ne (Ne.symm e)]
            go_wp2_with (fail)
            go_loopw [12] (fun t12 W => ∃ j : Nat, j ≤ 4 ∧ t12 = .int .i64 j ∧ W.ownsRow wo.heap.size 100 1 (.slice (some ⟨wo.heap.size, 0, none⟩) 64 64) 64 ((wordsV l).set i (.int .u32 (accN b i j : Nat))) ∧ Hid (Below wo.heap.size wo W)) (fun t12 _ => 4 - (intOf t12).toNat)
            case atStart => exact ⟨0, by omega, rfl, by rw [← hset0]; exact hrow, HB3⟩
            case round =>
              clear hrow HB3
              obtain ⟨j, hj, rfl, hrow, HB3⟩ := hrel
              by_cases hlj : j < 4
              · have cV : wr.cell? ⟨wo.heap.size, i, none⟩ = some (.int .u32 (accN b i j : Nat)) := by
                  rw [hrow.cellAt i (by omega)]
                  rw [List.getElem?_set_self (by simp [wordsV]; omega)]
                have fV := hrow.frozenAt i
                have hac := accN_lt b i j
                have hbyte := HBG.out (4 * i + j) (by omega)
                have hstep : accN b i (j + 1) = accN b i j * 256 + (b.getD (4 * i + j) 0).toNat := rfl
                have hpx : 64 * k + 4 * i + j < P.length := by omega
                rw [show 64 * k + (4 * i + j) = 64 * k + 4 * i + j by omega, List.getElem?_eq_getElem hpx] at hbyte
                injection hbyte with hbyte
                rw [← hbyte] at hstep
                have hc := (P[64 * k + 4 * i + j]'hpx).toNat_lt
                generalize hcc : P[64 * k + 4 * i + j]'hpx = c at *
                have ha : accN b i j ≤ 16777215 := by
                  have : 256 ^ j ≤ 256 ^ 3 := Nat.pow_le_pow_right (by omega) (by omega)
                  omega
                have hsv : ∀ d, ((wr.drewN d).setCell ⟨wo.heap.size, i, none⟩ (.int .u32 (accN b i (j + 1) : Nat))).ownsRow wo.heap.size 100 1 (.slice (some ⟨wo.heap.size, 0, none⟩) 64 64) 64 ((wordsV l).set i (.int .u32 (accN b i (j + 1) : Nat))) ∧ Below wo.heap.size wo ((wr.drewN d).setCell ⟨wo.heap.size, i, none⟩ (.int .u32 (accN b i (j + 1) : Nat))) := by
                  intro d
                  have h' : (wr.drewN d).ownsRow wo.heap.size 100 1 (.slice (some ⟨wo.heap.size, 0, none⟩) 64 64) 64 ((wordsV l).set i (.int .u32 (accN b i j : Nat))) := hrow
                  have h2 := h'.stored i (.int .u32 (accN b i (j + 1) : Nat))
                  rw [List.set_set] at h2
                  exact ⟨h2.1, (below_drewN HB3.out d).setCell (Nat.le_refl _) _⟩
                rw [hstep] at hsv
                have HSV := Lib.hid hsv
                have HSTEP := Lib.hid hstep
                have s1 : ∀ x2 x3 x4 x5, ({ heap := wr.heap, tape := x2, drawn := x3, os := x4, output := x5 } : World).cell? ⟨wo.heap.size, i, none⟩ = some (.int .u32 (accN b i j : Nat)) := fun _ _ _ _ => cV
                clear hsv hstep hbyte hac
                generalize accN b i j = a at *
                have e1 : IntKind.i64.wrap (4 * (i : Int)) = 4 * (i : Int) := IntWalk.i64_in _ (by omega)
                have e2 : IntKind.i64.wrap (64 * (k : Int) + 4 * (i : Int)) = 64 * (k : Int) + 4 * (i : Int) := IntWalk.i64_in _ (by omega)
                have e3 : IntKind.i64.wrap (64 * (k : Int) + 4 * (i : Int) + j) = 64 * (k : Int) + 4 * (i : Int) + j := IntWalk.i64_in _ (by omega)
                have n3 : (64 * (k : Int) + 4 * (i : Int) + j).toNat = 64 * k + 4 * i + j := by omega
                have p3 : 0 ≤ (64 * (k : Int) + 4 * (i : Int) + j) := by omega
                have q3 : (64 * (k : Int) + 4 * (i : Int) + j) < P.length := by omega
                have p4 : (0 : Int) ≤ i := by omega
                have q4 : (i : Int) < 64 := by omega
                have e5 : IntKind.u32.wrap ((a : Int) * 256) = (a : Int) * 256 := IntWalk.u32_in _ (by omega)
                have e6 : IntKind.u32.wrap (c.toNat : Int) = (c.toNat : Int) := IntWalk.u32_in _ (by omega)
                have e7 : IntKind.u32.wrap ((a : Int) * 256 + c.toNat) = (a : Int) * 256 + c.toNat := IntWalk.u32_in _ (by omega)
                go_wp2_with (fail)
                go_still_tail 18, (by kernel_rfl)
                clear s1 e1 e2 e3 e5 e6 e7
                go_wp2_with (fail)
                go_roundw
                case rel =>
                  exact ⟨j + 1, by omega, by go_num, by rw [HSTEP.out]; have h0 := HSV.out 1; push_cast at h0 ⊢; exact h0.1, Lib.hid (by have h0 := HSV.out 1; push_cast at h0 ⊢; exact h0.2)⟩
                case measure => simp [intOf]; omega
              · have hj4 : j = 4 := by omega
                have hrow4 : wr.ownsRow wo.heap.size 100 1 (.slice (some ⟨wo.heap.size, 0, none⟩) 64 64) 64 (wordsV (l.set i (WW b i))) := by
                  rw [WW_first b h16, ← wordsV_set, ← accN_4, ← hj4]; exact hrow
                have HF2 := Lib.hid (HF.out.next hli)
                clear hrow
                go_wp2_with (fail)
                go_roundw
                case rel => exact ⟨i + 1, _, by omega, by go_num, hrow4, HF2, HB3⟩
                case measure => simp [intOf]; omega
          · have hB16 : decide ((i : Int) < 16) = false := by simp; omega
            have hll : l.length = 64 := HF.out.1
            have a15 := own_word hrow (i - 15) (by omega)
            have a2 := own_word hrow (i - 2) (by omega)
            have a16 := own_word hrow (i - 16) (by omega)
            have a7 := own_word hrow (i - 7) (by omega)
            have aw := own_word hrow i (by omega)
            rw [HF.out.2.1 (i - 15) (by omega)] at a15
            rw [HF.out.2.1 (i - 2) (by omega)] at a2
            rw [HF.out.2.1 (i - 16) (by omega)] at a16
            rw [HF.out.2.1 (i - 7) (by omega)] at a7
            have fV := hrow.frozenAt i
            have hsv := fun d => own_wset hrow HB3.out i (WW b i) d
            have hnx := WW_next b (n := i) (by omega) hli
            generalize WW b (i - 15) = x at *
            generalize WW b (i - 2) = y at *
            generalize WW b (i - 16) = z at *
            generalize WW b (i - 7) = c7 at *
            generalize l.getD i 0 = old at *
            have HROW := Lib.hid hrow
            have HSV := Lib.hid hsv
            have HNX := Lib.hid hnx
            have HF2 := Lib.hid (HF.out.next hli)
            have HLL := Lib.hid hll
            clear hsv hnx hrow hll
            go_wp2_with (fail)
            have e15 : IntKind.i64.wrap ((i : Int) - 15) = (i : Int) - 15 := IntWalk.i64_in _ (by omega)
            have e2 : IntKind.i64.wrap ((i : Int) - 2) = (i : Int) - 2 := IntWalk.i64_in _ (by omega)
            have e16 : IntKind.i64.wrap ((i : Int) - 16) = (i : Int) - 16 := IntWalk.i64_in _ (by omega)
            have e7 : IntKind.i64.wrap ((i : Int) - 7) = (i : Int) - 7 := IntWalk.i64_in _ (by omega)
            have n15 : ((i : Int) - 15).toNat = i - 15 := by omega
            have n2 : ((i : Int) - 2).toNat = i - 2 := by omega
            have n16 : ((i : Int) - 16).toNat = i - 16 := by omega
            have n7 : ((i : Int) - 7).toNat = i - 7 := by omega
            have p15 : 0 ≤ ((i : Int) - 15) := by omega
            have p2 : 0 ≤ ((i : Int) - 2) := by omega
            have p16 : 0 ≤ ((i : Int) - 16) := by omega
            have p7 : 0 ≤ ((i : Int) - 7) := by omega
            have q15 : ((i : Int) - 15) < 64 := by omega
            have q2 : ((i : Int) - 2) < 64 := by omega
            have q16 : ((i : Int) - 16) < 64 := by omega
            have q7 : ((i : Int) - 7) < 64 := by omega
            have hn0 : (0 : Int) ≤ i := by omega
            have hn64 : (i : Int) < 64 := by omega
            go_quiet (fail)
            clear e15 e2 a15 a2
            go_wp2_with (fail)
            generalize hW5 : World.drewN wr _ = W5
            have s16 : ∀ x2 x3 x4 x5, ({ heap := W5.heap, tape := x2, drawn := x3, os := x4, output := x5 } : World).cell? ⟨wo.heap.size, i - 16, none⟩ = some (.int .u32 (V z)) := fun _ _ _ _ => by rw [← hW5]; exact a16
            have s7 : ∀ x2 x3 x4 x5, ({ heap := W5.heap, tape := x2, drawn := x3, os := x4, output := x5 } : World).cell? ⟨wo.heap.size, i - 7, none⟩ = some (.int .u32 (V c7)) := fun _ _ _ _ => by rw [← hW5]; exact a7
            have b16 : W5.cell? ⟨wo.heap.size, i, none⟩ = some (.int .u32 (V old)) := by rw [← hW5]; exact aw
            have f16 : W5.frozen? ⟨wo.heap.size, i, none⟩ = false := by rw [← hW5]; exact fV
            have hrow5 : W5.ownsRow wo.heap.size 100 1 (.slice (some ⟨wo.heap.size, 0, none⟩) 64 64) 64 (wordsV l) := by rw [← hW5]; exact HROW.out
            have hb5 : Below wo.heap.size wo W5 := by rw [← hW5]; exact below_drewN HB3.out _
            have HSV5 := Lib.hid (fun d => own_wset hrow5 hb5 i (WW b i) d)
            have g16 : (16 : Int) ≤ i := by omega
            have g7 : (7 : Int) ≤ i := by omega
            clear hrow5 hb5 hW5 a16 a7 aw fV HSV HROW HB3 HF
            refine wp_region_still_tail 32 (by kernel_rfl) (by kernel_rfl) ?_
            simp only [List.take_succ_cons, List.take_zero, List.drop_succ_cons, List.drop_zero]
            repeat still_step
            still_call (turn_7 _ _)
            repeat still_step
            still_call (turn_18 _ _)
            repeat still_step
            still_call (turn_17 _ _)
            repeat still_step
            still_call (turn_19 _ _)
            repeat still_step
            refine wpStill_nil ?_
            clear s16 s7 e16 e7
            have hval : z + c7 + (rotr x 7 ^^^ rotr x 18 ^^^ x >>> 3) + (rotr y 17 ^^^ rotr y 19 ^^^ y >>> 10) = WW b i := by
              rw [HNX.out]
              unfold sig0 sig1
              rw [UInt32.add_assoc z c7, UInt32.add_comm c7, ← UInt32.add_assoc]
            rw [hval]
            clear hval
            go_wp2_with (fail)
            go_roundw
            case rel => exact ⟨i + 1, _, by omega, by go_num, (HSV5.out 1).1, HF2, Lib.hid (HSV5.out 1).2⟩
            case measure => simp [intOf]; omega
        · have hi64' : i = 64 := by omega
          have hsch : l = sched b 64 := by have := HF.out; rw [hi64'] at this; exact this.done
          have hB64 : decide ((i : Int) < 64) = false := by simp; omega
          have hown4 := own_below HOWN3.out HB3.out
          have hbs := HB3.out.size
          obtain ⟨Ah, chh, rfl, _, _, hrh⟩ := IsSlice.of_own hown4
          have hrw := Reads.of_own hrow
          rw [hsch] at hrw
          have hblk := block_any Ah (some ⟨wo.heap.size, 0, none⟩) K chh 64 ck hv b wr hrh hrw ((hk.below HB.out).below HB3.out)
          rw [← HRS.out] at hblk
          have HBLK := Lib.hid hblk
          have hkm2 : k + 1 ≤ m := by omega
          clear hblk hrw hrh hrow hown4 hsch hi64'
          go_wp2_with (fail)
          refine HBLK.out.mono ?_
          rintro e w6 ⟨v6, rfl, hown6, hb6⟩
          have hown7 := own_base hown6 (Nat.le_trans HB.out.size hbs)
          have HB7 := Lib.hid ((HB.out.trans (HB3.out.mono HB.out.size)).trans (hb6.mono (Nat.le_trans HB.out.size hbs)))
          clear hown6 hb6
          go_wp2_with (fail)
          go_roundw
          case rel => exact ⟨k + 1, hkm2, by go_num, hown7, HB7⟩
          case measure => simp [intOf]; omega
    · have hkm' : k = m := by omega
      have hsha : sha s = (list8 (runB k H0 P)).flatMap bytes4 := by rw [hkm', HSHA.out, flat_bytes]
      generalize runB k H0 P = hv at *
      have HSH := Lib.hid hsha
      have hge : P.length ≤ 64 * k := by have := HM.out; omega
      have hB : decide (64 * (k : Int) < P.length) = false := by simp; omega
      obtain ⟨Ah, chh, rfl, _, _, hrh⟩ := IsSlice.of_own hown
      have HRH := Lib.hid hrh
      clear hsha hge hkm' hrh hown
      go_wp2_with (fail)
      go_loopw [15, 16, 17] (fun t15 t16 _ W => ∃ i : Nat, i ≤ 8 ∧ t16 = .int .i64 i ∧ OwnM W wo.heap.size 5 t15 (bytesV (((list8 hv).take i).flatMap bytes4)) ∧ Hid (Below wo.heap.size wo W)) (fun _ t16 _ _ => 8 - (intOf t16).toNat)
      case atStart => exact ⟨0, by omega, rfl, .inl ⟨rfl, rfl⟩, Lib.hid (Below.refl _ _)⟩
      case round =>
        obtain ⟨i, hi8, rfl, hown, HB5⟩ := hrel
        by_cases hli : i < 8
        · have hB8 : decide ((i : Int) < 8) = true := by simp; omega
          obtain ⟨w4, rfl⟩ : ∃ w4 : World, w4 = wr := ⟨_, rfl⟩
          have hnext : ((list8 hv).take (i + 1)).flatMap bytes4 = ((list8 hv).take i).flatMap bytes4 ++ bytes4 ((list8 hv).getD i 0) := by
            have hl8 : i < (list8 hv).length := hli
            rw [List.take_succ_eq_append_getElem hl8, List.flatMap_append, List.getD_eq_getElem?_getD, List.getElem?_eq_getElem hl8]
            simp
          have hpl : (((list8 hv).take i).flatMap bytes4).length ≤ 32 := by
            have : ∀ l : List UInt32, (l.flatMap bytes4).length = 4 * l.length := by
              intro l
              induction l with
              | nil => rfl
              | cons x l ih => rw [List.flatMap_cons, List.length_append, ih]; simp [bytes4]; omega
            rw [this, List.length_take]; omega
          have hcx := fun W (hW : Below wo.heap.size wo W) => (HRH.out.below hW).word_at (k := i) hli
          generalize (list8 hv).getD i 0 = x at *
          generalize ((list8 hv).take i).flatMap bytes4 = p at *
          have HN := Lib.hid hnext
          have HCX := Lib.hid hcx
          clear hnext hcx
          go_wp2_with (fail)
          go_loopw [15, 17] (fun t15 t17 W => ∃ j : Nat, j ≤ 4 ∧ t17 = .int .i64 (3 - (j : Int)) ∧ OwnM W wo.heap.size 5 t15 (bytesV (p ++ (bytes4 x).take j)) ∧ Hid (Below wo.heap.size wo W)) (fun _ t17 _ => (intOf t17 + 1).toNat)
          case atStart => exact ⟨0, by omega, rfl, by simpa using hown, HB5⟩
          case round =>
            clear hown HB5
            obtain ⟨j, hj4, rfl, hown, HB5⟩ := hrel
            by_cases hlj : j < 4
            · obtain ⟨ad, rfl, cx⟩ := HCX.out wr HB5.out
              have hsw := HB5.out.size
              have hb4 := bytes4_take x j hlj
              have hl3 : (bytesV (p ++ (bytes4 x).take j)).length ≤ 36 := by rw [bytesV_length, List.length_append, List.length_take]; simp [bytes4]; omega
              have hc8 : (V x / 2 ^ (8 * (3 - j))) % 256 = ((UInt8.ofNat (x.toNat / 2 ^ (24 - 8 * j))).toNat : Int) := by
                rw [show 8 * (3 - j) = 24 - 8 * j by omega]
                rw [UInt8.toNat_ofNat', Int.natCast_emod, Int.natCast_ediv, Int.natCast_pow]; rfl
              generalize hc0 : UInt8.ofNat (x.toNat / 2 ^ (24 - 8 * j)) = c0 at *
              have hsn2 : bytesV (p ++ (bytes4 x).take j) ++ [.int .u8 (c0.toNat : Int)] = bytesV (p ++ (bytes4 x).take (j + 1)) := by
                rw [bytesV_snoc _ _ c0 rfl, hb4, List.append_assoc]
              generalize bytesV (p ++ (bytes4 x).take j) = xs at *
              have HSN := Lib.hid hsn2
              have hj0 : 0 ≤ 3 - (j : Int) := by omega
              have hj3 : (j : Int) ≤ 3 := by omega
              clear hsn2 hb4 hc0
              go_wp2_with (at_builtin; refine wpList_append_m rfl _ _ 63 rfl i1 (.int .u8 0) 1 Tryz.underlying63 hi1 hy0 hy1 hy2 rfl rfl (hown.alloc _) (.int .u8 (c0.toNat : Int)) ⟨wr.heap.size, 0, none⟩ 1 rfl (by go_simp) rfl ?f3 ?f4 ?f5 ?_)
              case f3 => unfold maxLen; omega
              case f4 => omega
              case f5 => simp; omega
              intro v2 w8 hown2 hg2
              have hb2 : Below wo.heap.size wo w8 := (HB5.out.alloc hsw _).grown hg2 (by simp; omega) (fun k hk => (hown.lt k hk).1)
              rw [HSN.out] at hown2
              have HB8 := Lib.hid hb2
              clear hg2 hb2
              go_wp2_with (fail)
              go_roundw
              case rel => exact ⟨j + 1, by omega, by go_num, hown2, HB8⟩
              case measure => simp [intOf]; omega
            · have hj : j = 4 := by omega
              rw [hj] at hown
              have hown' : OwnM wr wo.heap.size 5 _ (bytesV (p ++ bytes4 x)) := hown
              rw [← HN.out] at hown'
              have hB3 : decide (0 ≤ 3 - (j : Int)) = false := by simp; omega
              clear hown
              go_wp2_with (fail)
              go_roundw
              case rel => exact ⟨i + 1, by omega, by go_num, hown', HB5⟩
              case measure => simp [intOf]; omega
        · have hi8' : i = 8 := by omega
          rw [hi8', show (list8 hv).take 8 = list8 hv from rfl, ← HSH.out] at hown
          have hB8 : decide ((i : Int) < 8) = false := by simp; omega
          have hcv := hown.back (P := Tryz.prog) 63 9 Tryz.underlying63 Tryz.underlying5 Tryz.underlying9
          have HCV := Lib.hid hcv
          clear hcv hi8'
          go_wp2_with (fail)
          rw [HCV.out]
          go_wp2_with (fail)
          go_ret
          exact ⟨rfl, HB.out.trans (HB5.out.mono HB.out.size)⟩

end Go.Proofs.YtjajoiahgfafgaaGreatDoor
end
