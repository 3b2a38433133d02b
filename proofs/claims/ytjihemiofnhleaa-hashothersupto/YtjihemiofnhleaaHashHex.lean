/- hash.Hex, hawserref04.Hex: two digits a byte. -/
import Derived.Test.YtjihemiofnhleaaWriteByte
import Derived.Test.YtjihemiofnhleaaWords
import Derived.Test.YtjihemiofnhleaaPlainHex
import Derived.Deep.RegionLaw
namespace Go.Proofs.Ytjihemiofnhleaa
open Go.RowKit Plain

set_option maxHeartbeats 400000 in
theorem Hex_any (s : List UInt8) (w : World) (hs : s.length ≤ 70368744177664) :
    Calls Try.prog 17 #[.string ⟨s.toArray⟩] w (Ret w (.string ⟨(hex s).toArray⟩)) := by
  go_enter Try.func17, Try.ntmps17
  go_wp2_with (fail)
  go_loopw [4, 7] (fun _ t7 wr => ∃ k : Nat, k ≤ s.length ∧ t7 = .int .i64 k ∧ Lib.IsBuilderF 52 5 w.heap.size w.heap.size (Lib.byteCells (hex (s.take k))) wr ∧ Below w.heap.size w wr) (fun _ t7 _ => s.length - (intOf t7).toNat)
  case atStart => exact ⟨0, by omega, rfl, fresh_builder w, (Below.refl _ _).alloc (Nat.le_refl _) _⟩
  case round =>
    obtain ⟨k, hk, rfl, hbl, hb⟩ := hrel
    by_cases hlt : k < s.length
    · have hsn := hex_snoc s k hlt
      have hl := hex_length (s.take k)
      rw [List.length_take, Nat.min_eq_left (by omega)] at hl
      generalize hc : s[k] = c at *
      obtain ⟨x, y, hx, hy, x16, y16, ex, ey, _, hB⟩ := hex_go c
      rw [hB] at hsn
      generalize hd1 : digs[x] = d1 at *
      generalize hd2 : digs[y] = d2 at *
      generalize hex (s.take k) = l at *
      unfold digs at hd1 hd2
      have HS := Lib.hid hsn
      have HL := Lib.hid hl
      have hl2 : l.length ≤ 2 * k := by omega
      clear hsn hB hl
      go_wp2_with (fail)
      refine (WriteByte_list _ _ l d1 _ hbl (by omega) hb.size).mono ?_
      rintro e w1 ⟨rfl, hbl1, hb1, _⟩
      go_wp2_with (fail)
      refine (WriteByte_list _ _ (l ++ [d1]) d2 _ hbl1 (by simp; omega) (hb.trans hb1).size).mono ?_
      rintro e w2 ⟨rfl, hbl2, hb2, _⟩
      go_wp2_with (fail)
      go_roundw
      case rel => exact ⟨k + 1, by omega, by go_num, by rw [HS.out]; simpa using hbl2, (hb.trans hb1).trans hb2⟩
      case measure => simp [intOf]; omega
    · obtain rfl : k = s.length := by omega
      go_wp2_with (fail)
      refine (Try.Builder_String_any_f _ _ _ _ hbl hb.size).mono ?_
      rintro e w1 ⟨rfl, _, hb1⟩
      go_wp2_with (fail)
      go_ret
      exact ⟨rfl, hb.trans hb1⟩

/-- append onto a row of the call's own, as one step of a region that draws. -/
theorem step_append_own {P : Program} {ops : Array Oper} {o : Oper} {a : Act} {w : World} {K : Act → World → Prop} {Q : Exit → Act → World → Prop} {E : Prop} (hg : o.guard = none) (s x : Operand) (t : TypeId)
    (ho : o.op = .call { callee := .builtin .append, args := #[s, x], argTypes := #[t, t] })
    (base : Nat) (e : TypeId) (i : TypeInfo) (z : Value) (size bytes : Nat) (ht : P.underlying t = some (.slice e)) (hi : P.info? e = some i) (hz : i.zero = some z)
    (hsize : i.size = size) (hby : i.bytes = bytes) (hzs : z.cells.size = size) (hsz : 0 < size)
    (v : Value) (n : Nat) (xs : List Value) (hs : a.eval s = v) (hown : w.ownsRow base e size v n xs)
    (ad : Addr) (m c : Nat) (news : List Value) (hx : a.eval x = .slice (some ad) m c) (hl : news.length = m * size) (hnews : ∀ j u, news[j]? = some u → w.cell? (ad.add j) = some u) (h1 : ∀ u ∈ news, u.oneCell' = true)
    (h63 : n + m ≤ maxLen) (hbytes : (n + m) * bytes ≤ 140737488355328) (hbase : base ≤ w.heap.size)
    (h : ∀ v' w', w'.ownsRow base e size v' (n + m) (xs ++ news) → w.grownBy w' v.ownBlock → (v' = .slice none 0 0 ↔ v = .slice none 0 0 ∧ m = 0) → K (a.put o.dst v') w') :
    if Region.wanted o (yielded ops a.tmps) = true then Oper.wp P o a w K Q else E := by
  have hw : Region.wanted o (yielded ops a.tmps) = true := by simp [Region.wanted, hg]
  rw [if_pos hw]
  exact wp_append_own w s x t ho base e i z size bytes ht hi hz hsize hby hzs hsz v n xs hs hown ad m c news hx hl hnews h1 h63 hbytes hbase h

theorem laid_row (w : World) (xs : List Value) (e : TypeId) : ∀ j u, xs[j]? = some u → (w.alloc (.cells xs.toArray e)).cell? ((⟨w.heap.size, 0, none⟩ : Addr).add j) = some u := by
  intro j u hj
  rw [show (⟨w.heap.size, 0, none⟩ : Addr).add j = ⟨w.heap.size, j, none⟩ by unfold Addr.add; split <;> simp_all, cell_of_row _ _ _ xs.toArray e (0, 0) (heap_alloc_new w _)]
  simpa using hj
theorem own_drewN {w : World} {base : Nat} {e : TypeId} {size n : Nat} {v : Value} {xs : List Value} (h : w.ownsRow base e size v n xs) (k : Nat) : (w.drewN k).ownsRow base e size v n xs := h

set_option maxHeartbeats 400000 in
theorem Hex_ref (s : List UInt8) (w : World) (hs : s.length ≤ 70368744177664) :
    Calls Try.prog 18 #[.string ⟨s.toArray⟩] w (Ret w (.string ⟨(hex s).toArray⟩)) := by
  obtain ⟨i0, hi, hz0, hz1, hz2⟩ := info_parts info_byte
  go_enter Try.func18, Try.ntmps18
  go_wp2_with (fail)
  go_loopw [4, 5] (fun t4 t5 wr => ∃ k : Nat, k ≤ s.length ∧ t5 = .int .i64 k ∧ wr.ownsRow w.heap.size 5 1 t4 (hex (s.take k)).length (bytesV (hex (s.take k))) ∧ Below w.heap.size w wr) (fun _ t5 _ => s.length - (intOf t5).toNat)
  case atStart => exact ⟨0, by omega, rfl, ⟨rfl, .inl ⟨rfl, rfl⟩⟩, Below.refl _ _⟩
  case round =>
    obtain ⟨k, hk, rfl, hown, hb⟩ := hrel
    by_cases hlt : k < s.length
    · have hsn := hex_snoc s k hlt
      have hl := hex_length (s.take k)
      rw [List.length_take, Nat.min_eq_left (by omega)] at hl
      generalize hc : s[k] = c at *
      obtain ⟨x, y, hx, hy, x16, y16, ex, _, ey, hB⟩ := hex_go c
      rw [hB] at hsn
      generalize hd1 : digs[x] = d1 at *
      generalize hd2 : digs[y] = d2 at *
      generalize hex (s.take k) = l at *
      unfold digs at hd1 hd2
      have HS := Lib.hid hsn
      have HL := Lib.hid hl
      have hl2 : l.length ≤ 2 * k := by omega
      have px : (0 : Int) ≤ k := by omega
      have qx : (k : Int) < s.length := by omega
      have px1 : (0 : Int) ≤ x := by omega
      have qx1 : (x : Int) < 16 := by omega
      have py1 : (0 : Int) ≤ y := by omega
      have qy1 : (y : Int) < 16 := by omega
      have wx : IntKind.u8.wrap (x : Int) = x := IntWalk.u8_in _ (by omega)
      have wy : IntKind.u8.wrap (y : Int) = y := IntWalk.u8_in _ (by omega)
      have ty : (c.toNat : Int).tmod 16 = y := by rw [Int.tmod_eq_emod_of_nonneg (by omega)]; exact ey
      have tx : (c.toNat : Int).tdiv 16 = x := by rw [Int.tdiv_eq_ediv_of_nonneg (by omega)]; exact ex
      clear hsn hB hl
      go_wp2_with (fail)
      go_region_law (refine step_append_own rfl _ _ 26 rfl w.heap.size 5 i0 (.int .u8 0) 1 1 Try.underlying26 hi hz0 hz1 hz2 rfl (by decide) _ _ _ rfl ((own_drewN hown 1).alloc _) ⟨wr.heap.size, 0, none⟩ 2 2 [.int .u8 (d1.toNat : Int), .int .u8 (d2.toNat : Int)] rfl rfl (laid_row wr _ _) (by intro u hu; simp at hu; rcases hu with rfl | rfl <;> rfl) (by unfold maxLen; omega) (by omega) (by have := hb.size; simp; omega) ?_; intro v' w2 hown' hgrow _)
      clear wx wy ty tx
      all_goals
        have hb2 := ((hb.alloc hb.size (.cells #[.int .u8 (d1.toNat : Int), .int .u8 (d2.toNat : Int)] 5)).drew).grown hgrow (by have := hb.size; simp; omega) (fun k hk => (hown.lt k hk).1)
        go_wp2_with (fail)
        go_roundw
        case rel => exact ⟨k + 1, by omega, by go_num, by rw [HS.out]; simpa [bytesV] using hown', hb2⟩
        case measure => simp [intOf]; omega
    · obtain rfl : k = s.length := by omega
      go_wp2_with (fail)
      rw [conv_own (P := Try.prog) 26 9 5 Try.underlying26 Try.underlying5 Try.underlying9 hown]
      go_wp2_with (fail)
      go_ret
      exact ⟨rfl, hb⟩
end Go.Proofs.Ytjihemiofnhleaa

