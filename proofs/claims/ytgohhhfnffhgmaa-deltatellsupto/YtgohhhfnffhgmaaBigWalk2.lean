/- hawserref04.above, fraction: the first 32 bits behind the point of a root. -/
import Derived.Test.YtgohhhfnffhgmaaBigWalk1
import Derived.Test.YtgohhhfnffhgmaaPlainPrimes
namespace Go.Proofs.Ytgohhhfnffhgmaa
open Go.RowKit Plain

theorem laid_row' (w : World) (xs : List Value) (e : TypeId) (n : Nat) (hn : xs.length = n) : Reads (w.alloc (.cells xs.toArray e)) 1 (some ⟨w.heap.size, 0, none⟩) n xs :=
  ⟨by omega, fun _ => ⟨_, rfl, fun j u hj => by
    rw [show (⟨w.heap.size, 0, none⟩ : Addr).add j = ⟨w.heap.size, j, none⟩ by unfold Addr.add; split <;> simp_all, cell_of_row _ _ _ xs.toArray e (0, 0) (heap_alloc_new w _)]
    simpa using hj⟩⟩

theorem cells_u64 (n : Int) : (Value.int .u64 n).cells = #[.int .u64 n] := rfl
theorem words_two (x : Nat) (h : x < 137438953472) : Words [x % 4294967296, x / 4294967296] ∧ val [x % 4294967296, x / 4294967296] = x := by
  refine ⟨fun k => ?_, by simp only [val]; omega⟩
  match k with
  | 0 => simp; omega
  | 1 => simp; omega
  | k + 2 => simp
theorem words_one (x : Nat) (h : x < 4294967296) : Words [x] := by
  intro k
  match k with
  | 0 => simpa using h
  | k + 1 => simp
theorem words_app {l m : List Nat} (hl : Words l) (hm : Words m) : Words (l ++ m) := by
  intro k
  simp only [List.getD_eq_getElem?_getD]
  by_cases h : k < l.length
  · rw [List.getElem?_append_left h]; have := hl k; simpa only [List.getD_eq_getElem?_getD] using this
  · rw [List.getElem?_append_right (by omega)]; have := hm (k - l.length); simpa only [List.getD_eq_getElem?_getD] using this
theorem words_zeros (n : Nat) : Words (List.replicate n 0) := by
  intro k
  simp only [List.getD_eq_getElem?_getD, List.getElem?_replicate]; split <;> simp

set_option maxHeartbeats 1000000 in
theorem above_any (x p k : Nat) (w : World) (hx : x < 137438953472) (hp : p < 4294967296) (hk : k ≤ 100) :
    Calls Try.prog 52 #[.int .u64 x, .int .u64 p, .int .i64 k] w (Ret w (.bool (gtB (x ^ k) (4294967296 ^ k * p)))) := by
  obtain ⟨i0, hi, hz0, hz1, hz2⟩ := info_parts info_u64
  obtain ⟨ab, hl2, hw2, hv2, hcs⟩ : ∃ ab : List Nat, ab.length = 2 ∧ Words ab ∧ val ab = x ∧ u64s ab = [.int .u64 ((x : Int) % 4294967296), .int .u64 ((x : Int) / 4294967296)] :=
    ⟨_, rfl, (words_two x hx).1, (words_two x hx).2, by simp [u64s]⟩
  go_enter Try.func52, Try.ntmps52
  go_wp2_with (fail)
  have hA : Reads ((w.alloc (.cells #[.int .u64 ((x : Int) % 4294967296), .int .u64 ((x : Int) / 4294967296)] 79)).alloc (.cells #[.int .u64 1] 79)) 1 (some ⟨w.heap.size, 0, none⟩) ab.length (u64s ab) := by
    rw [hcs, hl2]; exact
    (laid_row' w [.int .u64 ((x : Int) % 4294967296), .int .u64 ((x : Int) / 4294967296)] 79 2 rfl).below ((Below.refl _ _).alloc (Nat.le_refl _) _)
  have hV : Reads ((w.alloc (.cells #[.int .u64 ((x : Int) % 4294967296), .int .u64 ((x : Int) / 4294967296)] 79)).alloc (.cells #[.int .u64 1] 79)) 1 (some ⟨w.heap.size + 1, 0, none⟩) 1 (u64s [1]) := by
    have h := laid_row' (w.alloc (.cells #[.int .u64 ((x : Int) % 4294967296), .int .u64 ((x : Int) / 4294967296)] 79)) [.int .u64 1] 79 1 rfl
    simpa [u64s] using h
  have hB : Below w.heap.size w ((w.alloc (.cells #[.int .u64 ((x : Int) % 4294967296), .int .u64 ((x : Int) / 4294967296)] 79)).alloc (.cells #[.int .u64 1] 79)) := ((Below.refl _ _).alloc (Nat.le_refl _) _).alloc (by simp) _
  generalize ((w.alloc (.cells #[.int .u64 ((x : Int) % 4294967296), .int .u64 ((x : Int) / 4294967296)] 79)).alloc (.cells #[.int .u64 1] 79)) = W0 at *
  have HA := Lib.hid hA
  have HV := Lib.hid hV
  have HB := Lib.hid hB
  have HW2 := Lib.hid hw2
  have HV2 := Lib.hid hv2
  have HL2 := Lib.hid hl2
  clear hA hV hB hw2 hv2 hl2 hcs
  go_loopw [8, 9] (fun t8 t9 W => ∃ (i g : Nat) (v : List Nat), i ≤ k ∧ t9 = .int .i64 i ∧ t8 = .slice (some ⟨g, 0, none⟩) v.length v.length ∧ v.length = 1 + 3 * i ∧ Hid (Reads W 1 (some ⟨g, 0, none⟩) v.length (u64s v)) ∧ Hid (Words v) ∧ Hid (val v = x ^ i) ∧ Hid (Reads W 1 (some ⟨w.heap.size, 0, none⟩) ab.length (u64s ab)) ∧ Hid (Below w.heap.size w W)) (fun _ t9 _ => k - (intOf t9).toNat)
  case atStart => exact ⟨0, w.heap.size + 1, [1], by omega, rfl, rfl, rfl, HV, Lib.hid (words_one 1 (by omega)), Lib.hid (by simp [val]), HA, HB⟩
  case round =>
    clear HA HV HB
    obtain ⟨i, g, v, hi2, rfl, rfl, hvl, HV, HW, HE, HA, HB⟩ := hrel
    have hvb : v.length ≤ 301 := by omega
    have HVL := Lib.hid hvl
    clear hvl
    by_cases hlt : i < k
    · have hT := times_any (some ⟨g, 0, none⟩) (some ⟨w.heap.size, 0, none⟩) v.length 2 v ab wr HV.out HA.out HW.out HW2.out (by omega) (by rw [HL2.out]; omega)
      rw [HL2.out, HE.out, HV2.out] at hT
      have HT := Lib.hid hT
      clear hT
      go_wp2_with (fail)
      refine HT.out.mono ?_
      rintro e w2 ⟨g2, v2, rfl, hb2, hr2, hw2, he2, hl2⟩
      have HR2 := Lib.hid hr2
      have HW3 := Lib.hid hw2
      have HE2 := Lib.hid he2
      have hl3 := Lib.hid (show v2.length = 1 + 3 * (i + 1) by rw [hl2, HVL.out]; omega)
      have HB2 := Lib.hid hb2
      clear hr2 hw2 he2 hl2 hb2
      go_wp2_with (fail)
      go_roundw
      case rel => exact ⟨i + 1, g2, v2, by omega, by go_num, rfl, hl3.out, HR2, HW3, Lib.hid (by rw [HE2.out, Nat.pow_succ]), Lib.hid (HA.out.below HB2.out), Lib.hid (HB.out.trans (HB2.out.mono HB.out.size))⟩
      case measure => simp [intOf]; omega
    · obtain rfl : i = k := by omega
      go_wp2_with (at_make; refine wpList_make_full _ rfl _ _ 98 rfl wr.heap.size 79 i0 (.int .u64 0) 1 Try.underlying98 hi hz0 hz1 .i64 .i64 _ _ i rfl rfl rfl rfl ?c3 ?c4 ?c5 ?_)
      case c3 => rw [hz2]; omega
      case c4 => unfold maxLen; omega
      case c5 => exact Nat.le_refl _
      intro w1 hown hgrow
      simp only [cells_u64, Nat.mul_one, madeU64] at hown
      have hb1 : Below wr.heap.size wr w1 := (Below.refl _ _).grown hgrow (Nat.le_refl _) (fun k hk => by cases hk)
      have hs1 := hb1.size
      clear hgrow
      go_wp2_with (at_builtin; refine wpList_append_own _ rfl _ _ 98 rfl wr.heap.size 79 i0 (.int .u64 0) 1 8 Try.underlying98 hi hz0 hz1 hz2 rfl (by decide) _ _ _ rfl (hown.alloc _) ⟨w1.heap.size, 0, none⟩ 1 1 [.int .u64 (p : Nat)] rfl rfl (laid_one _ _ _) (one_oneCell rfl) ?d3 ?d4 ?d5 ?_)
      case d3 => unfold maxLen; omega
      case d4 => omega
      case d5 => simp; omega
      intro v' w2 hown' hgrow _
      have hb2 : Below wr.heap.size wr w2 := (hb1.alloc hs1 _).grown hgrow (by simp; omega) (fun k hk => (hown.lt k hk).1)
      rw [show u64s (List.replicate i 0) ++ [.int .u64 (p : Int)] = u64s (List.replicate i 0 ++ [p]) by simp [u64s]] at hown'
      obtain ⟨A2, c2, rfl, hc2, hm2, hr2⟩ := IsSlice.of_own hown'
      have hwW : Words (List.replicate i 0 ++ [p]) := words_app (words_zeros i) (words_one p hp)
      have hvW : val (List.replicate i 0 ++ [p]) = 4294967296 ^ i * p := by rw [val_append, val_zeros, List.length_replicate]; simp [val]
      have hlW : (List.replicate i 0 ++ [p]).length = i + 1 := by simp
      generalize List.replicate i 0 ++ [p] = q at *
      have HG := greater_any (some ⟨g, 0, none⟩) A2 v.length c2 v q w2 (HV.out.below hb2) (by rw [hlW]; exact hr2) HW.out hwW (by omega) (by omega)
      rw [hlW, hvW, HE.out] at HG
      have HG2 := Lib.hid HG
      have HB2 := Lib.hid hb2
      clear HG hown' hgrow hr2 hvW hlW hwW hown hb1 hb2
      go_wp2_with (fail)
      refine HG2.out.mono ?_
      rintro e w3 ⟨rfl, hb3⟩
      go_wp2_with (fail)
      go_ret
      exact ⟨rfl, HB.out.trans ((HB2.out.trans (hb3.mono HB2.out.size)).mono HB.out.size)⟩

set_option maxHeartbeats 1000000 in
theorem fraction_any (p k r : Nat) (w : World) (hp : p < 4294967296) (hk : k ≤ 100) (hr : Root p k r) (hr2 : r < 137438953472) :
    Calls Try.prog 43 #[.int .u64 p, .int .i64 k] w (Ret w (.int .u32 (r % 4294967296 : Nat))) := by
  have hlow : ∀ m, m ≤ r → gtB (m ^ k) (4294967296 ^ k * p) = false := fun m h => by
    have := Nat.pow_le_pow_left h k
    have := hr.1
    unfold gtB; simp; omega
  have hhigh : ∀ m, r < m → gtB (m ^ k) (4294967296 ^ k * p) = true := fun m h => by
    have := Nat.pow_le_pow_left (show r + 1 ≤ m by omega) k
    have := hr.2
    unfold gtB; simp; omega
  have HL := Lib.hid hlow
  have HH := Lib.hid hhigh
  clear hlow hhigh hr
  go_enter Try.func43, Try.ntmps43
  go_wp2_with (fail)
  go_loopw [5, 6, 7] (fun t5 t6 _ W => ∃ low high : Nat, low ≤ r ∧ r < high ∧ high ≤ 137438953472 ∧ t5 = .int .u64 low ∧ t6 = .int .u64 high ∧ Hid (Below w.heap.size w W)) (fun t5 t6 _ _ => (intOf t6).toNat - (intOf t5).toNat)
  case atStart => exact ⟨0, 137438953472, by omega, by omega, by omega, rfl, rfl, Lib.hid (Below.refl _ _)⟩
  case round =>
    obtain ⟨low, high, h1, h2, h3, rfl, rfl, HB⟩ := hrel
    by_cases hlt : 1 < high - low
    · have hmid : ((low : Int) + high) / 2 = (((low + high) / 2 : Nat) : Int) := by omega
      have hm1 : (low + high) / 2 < high := by omega
      have hm2 : low < (low + high) / 2 := by omega
      have hm3 : (low + high) / 2 < 137438953472 := by omega
      generalize (low + high) / 2 = m at *
      have hab := above_any m p k wr hm3 hp hk
      by_cases hm : m ≤ r
      · rw [HL.out m hm] at hab
        have HAB := Lib.hid hab
        clear hab
        go_wp2_with (fail)
        refine HAB.out.mono ?_
        rintro e w2 ⟨rfl, hb2⟩
        go_wp2_with (fail)
        go_roundw
        case rel => exact ⟨m, high, hm, h2, h3, rfl, rfl, Lib.hid (HB.out.trans (hb2.mono HB.out.size))⟩
        case measure => simp [intOf]; omega
      · rw [HH.out m (by omega)] at hab
        have HAB := Lib.hid hab
        clear hab
        go_wp2_with (fail)
        refine HAB.out.mono ?_
        rintro e w2 ⟨rfl, hb2⟩
        go_wp2_with (fail)
        go_roundw
        case rel => exact ⟨low, m, h1, by omega, by omega, rfl, rfl, Lib.hid (HB.out.trans (hb2.mono HB.out.size))⟩
        case measure => simp [intOf]; omega
    · obtain rfl : low = r := by omega
      go_wp2_with (fail)
      go_ret
      exact ⟨ret_int (by omega), HB.out⟩
end Go.Proofs.Ytgohhhfnffhgmaa
