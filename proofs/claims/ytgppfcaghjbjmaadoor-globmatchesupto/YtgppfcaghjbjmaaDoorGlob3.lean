/- glob.holds. -/
import Derived.Test.YtgppfcaghjbjmaaDoorGlob2
import Derived.Test.YtgppfcaghjbjmaaDoorRowsE
namespace Go.Proofs.YtgppfcaghjbjmaaDoor
open Go.RowKit Plain

def litV (x : Nat × Bool) : List Value := [.int .i32 x.1, .bool x.2]
theorem litV_length (x : Nat × Bool) : (litV x).length = 2 := rfl
theorem litV_oneCell (x : Nat × Bool) : ∀ u ∈ litV x, u.oneCell' = true := by intro u hu; simp [litV] at hu; rcases hu with rfl | rfl <;> rfl
theorem info_lit : (Tryd.prog.info? 91).map (fun i => (i.zero, i.size, i.bytes)) = some (some (.agg #[.int .i32 0, .bool false]), 2, 8) := by kernel_rfl
theorem laid_rowL (w : World) (t : TypeId) (L : List Value) : ∀ j v, L[j]? = some v → (w.alloc (.cells L.toArray t)).cell? ((⟨w.heap.size, 0, none⟩ : Addr).add j) = some v := by
  intro j v hj
  have h : ((⟨w.heap.size, 0, none⟩ : Addr).add j) = ⟨w.heap.size, j, none⟩ := by unfold Addr.add; split <;> simp_all
  rw [h, cell_of_row _ _ _ L.toArray t (0, 0) (heap_alloc_new w _)]
  simpa using hj
theorem own_below' {w w' : World} {base : Nat} {e : TypeId} {size n : Nat} {v : Value} {xs : List Value} (h : w.ownsRow base e size v n xs) (hb : Below w.heap.size w w') : w'.ownsRow base e size v n xs := by
  refine ⟨h.1, ?_⟩
  rcases h.2 with h2 | ⟨g, cap, cur, rfl, hbg, hg, hr⟩
  · exact .inl h2
  · refine .inr ⟨g, cap, cur, rfl, hbg, ?_, hr⟩
    rw [hb.block g (Array.getElem?_eq_some_iff.1 hg).1]
    exact hg

/-- "!" cut off -/
def bang (s : List UInt8) : Bool := s.head? == some 33
def cutBang (s : List UInt8) : List UInt8 := if bang s then s.drop 1 else s
theorem sCutBang_any (s : List UInt8) (w : World) (hs : s.length ≤ 4294967280) :
    Calls Tryd.prog 89 #[.string ⟨s.toArray⟩, .string ⟨#[33]⟩] w (Ret w (.tuple #[.string ⟨(cutBang s).toArray⟩, .bool (bang s)])) := by
  have hpre := fun W => Tryd.stringslite_HasPrefix ⟨s.toArray⟩ ⟨[(33 : UInt8)].toArray⟩ W
  have hb : [(33 : UInt8)].isPrefixOf s = bang s := by
    cases s with
    | nil => rfl
    | cons c r =>
      rw [Bool.eq_iff_iff, List.isPrefixOf_iff_prefix]
      unfold bang
      rw [beq_iff_eq, List.head?_cons]
      constructor
      · rintro ⟨t, e⟩; injection e with e _; rw [← e]
      · intro e; injection e with e; subst e; exact ⟨r, rfl⟩
  have hpre2 : ∀ w, Calls Tryd.prog 60 #[.string ⟨s.toArray⟩, .string ⟨#[33]⟩] w (Ret w (.bool (bang s))) := fun w => (hpre w).mono fun _ _ ⟨he, hw⟩ => ⟨by rw [← hb]; exact he, hw ▸ Below.refl _ _⟩
  clear hpre hb
  unfold cutBang
  cases hb : bang s with
  | false =>
    rw [hb] at hpre2
    have HP := Lib.hid hpre2
    clear hpre2 hb
    go_enter Tryd.func89, Tryd.ntmps89
    go_wp2_with (fail)
    refine (HP.out _).mono ?_
    rintro e w1 ⟨rfl, hw1⟩
    go_wp2_with (fail)
    go_ret2
    exact ⟨rfl, hw1⟩
  | true =>
    rw [hb] at hpre2
    have HP := Lib.hid hpre2
    have hl : 1 ≤ s.length := by cases s with | nil => cases hb | cons => simp
    have hdt : s.tail.take (s.length - 1) = s.tail := List.take_of_length_le (by simp)
    clear hpre2 hb
    go_enter Tryd.func89, Tryd.ntmps89
    go_wp2_with (fail)
    refine (HP.out _).mono ?_
    rintro e w1 ⟨rfl, hw1⟩
    go_wp2_with (fail)
    go_ret2
    exact ⟨rfl, hw1⟩
theorem CutBang_any (s : List UInt8) (w : World) (hs : s.length ≤ 4294967280) :
    Calls Tryd.prog 81 #[.string ⟨s.toArray⟩, .string ⟨#[33]⟩] w (Ret w (.tuple #[.string ⟨(cutBang s).toArray⟩, .bool (bang s)])) := by
  have HP := Lib.hid (sCutBang_any s w hs)
  go_enter Tryd.func81, Tryd.ntmps81
  go_wp2_with (fail)
  refine HP.out.mono ?_
  rintro e w1 ⟨rfl, hw1⟩
  go_wp2_with (fail)
  go_ret2
  exact ⟨rfl, hw1⟩

theorem holdsP_cut {s t : List UInt8} (hv : Lib.validD s = true) (ht : IsRune t) : holdsP s t = if holdN (lits (cutBang s)) (valR t) then !bang s else bang s := by
  rw [holdsP_num hv ht]
  unfold cutBang
  have hb : bang s = true ↔ s.head? = some 33 := by unfold bang; simp
  by_cases h : s.head? = some 33
  · rw [if_pos h, hb.2 h, if_pos rfl]
    cases holdN (lits (s.drop 1)) (valR t) <;> rfl
  · have hb' : bang s = false := by rw [← Bool.not_eq_true]; exact fun c => h (hb.1 c)
    rw [if_neg h, hb']
    have e : (if false = true then s.drop 1 else s) = s := if_neg (by decide)
    rw [e]
    cases holdN (lits s) (valR t) <;> rfl
theorem cutBang_valid {s : List UInt8} (hv : Lib.validD s = true) : Lib.validD (cutBang s) = true ∧ (cutBang s).length ≤ s.length := by
  unfold cutBang bang
  cases s with
  | nil => exact ⟨hv, Nat.le_refl _⟩
  | cons c r =>
    by_cases h : c = 33
    · subst h; exact ⟨bang_valid hv, by simp⟩
    · have : ((c :: r).head? == some 33) = false := by simp [h]
      rw [this]; exact ⟨hv, Nat.le_refl _⟩

def sliceLen : Value → Nat
  | .slice _ n _ => n
  | _ => 0

set_option maxHeartbeats 4000000 in
set_option maxRecDepth 100000 in
theorem holds_any (s t : List UInt8) (w : World) (hv : Lib.validD s = true) (ht : IsRune t) (hs : s.length ≤ 65536) :
    Calls Tryd.prog 62 #[.string ⟨s.toArray⟩, .int .i32 (valR t : Nat)] w (Ret w (.bool (holdsP s t))) := by
  obtain ⟨i0, hi, hz0, hz1, hz2⟩ := info_parts info_lit
  rw [holdsP_cut hv ht]
  have hcut := CutBang_any s w (by omega)
  obtain ⟨hv2, hl2⟩ := cutBang_valid hv
  have hvr := valR_le t
  generalize valR t = r at *
  generalize bang s = nt at *
  generalize cutBang s = l at *
  have hll : l.length ≤ 65536 := by omega
  obtain ⟨res, hres⟩ : ∃ b, b = (if holdN (lits l) r then !nt else nt) := ⟨_, rfl⟩
  rw [← hres]
  have HRES := Lib.hid hres
  clear hres
  have hsz : (ByteArray.mk l.toArray).size = l.length := by simp [ByteArray.size]
  have HC := Lib.hid hcut
  have HV := Lib.hid hv2
  have HI := Lib.hid hi
  clear hcut hv2 hv ht hl2 hs hi
  go_enter Tryd.func62, Tryd.ntmps62
  go_wp2_with (fail)
  refine HC.out.mono ?_
  rintro e w1 ⟨rfl, hw1⟩
  have HB1 := Lib.hid hw1
  clear hw1
  go_wp2_with (fail)
  go_loopw [6, 7] (fun t6 t7 W => ∃ (pos : Nat) (e : Bool) (acc : List (Nat × Bool)), pos ≤ l.length ∧ t7 = .bool e ∧ acc.length ≤ pos ∧ Hid (W.ownsRow (w1.heap.size + 1) 91 2 t6 acc.length (rowsE litV acc)) ∧ W.heap[w1.heap.size]? = some (.stringIter ⟨l.toArray⟩ pos) ∧ Hid (acc ++ numL (litsR e (runesP (l.drop pos))) = lits l) ∧ Hid (Lib.validD (l.drop pos) = true) ∧ Hid (Below w.heap.size w W)) (fun _ _ W => l.length - W.iterPos w1.heap.size)
  case atStart => exact ⟨0, false, [], by omega, rfl, by simp, Lib.hid (World.ownsRow_nil _ _ _ _), by simpa using World.iter_heap w1 ⟨l.toArray⟩ 0, Lib.hid rfl, HV, Lib.hid (HB1.out.alloc HB1.out.size _)⟩
  case round =>
    obtain ⟨pos, e, acc, hp, rfl, hal, HO, hit, HE, HVP, HB⟩ := hrel
    have hlt := (Array.getElem?_eq_some_iff.1 hit).1
    by_cases hlp : pos < l.length
    · have hne : l.drop pos ≠ [] := by intro e; have := congrArg List.length e; simp at this; omega
      have hd := dec_at l pos
      rw [dec_valid hne HVP.out] at hd
      obtain ⟨hw1, hvn⟩ := valid_next hne HVP.out
      rw [List.drop_drop] at hvn
      have hwl := runeW_le' hne
      rw [List.length_drop] at hwl
      have hls := lits_step hne HVP.out HE.out
      rw [List.drop_drop] at hls
      have hnx : ∀ ty, (Instr.next (.pointer (some ⟨w1.heap.size, 0, none⟩)) true ty).run Tryd.prog wr = _ := fun ty => Lib.run_next_any_at wr w1.heap.size ⟨l.toArray⟩ pos ty hit (by rw [hsz]; exact hlp)
      rw [hd] at hnx
      have hvv := valR_le (runeT (l.drop pos))
      generalize valR (runeT (l.drop pos)) = v at *
      generalize runeW (l.drop pos) = k at *
      have HLS := Lib.hid hls
      have hit2 := Lib.iterAt_heap wr w1.heap.size ⟨l.toArray⟩ pos (pos + k) hit
      have HB2 := Lib.hid (Lib.below_iterAt HB.out (k := w1.heap.size) HB1.out.size ⟨l.toArray⟩ (pos + k))
      have HO2 := Lib.hid (ownsRow_iterAt HO.out (k := w1.heap.size) (by omega) ⟨l.toArray⟩ (pos + k))
      have HIT := Lib.hid (iterPos_of hit)
      have HVN := Lib.hid hvn
      have HNE := Lib.hid hne
      have hi0 : (0 : Int) ≤ pos := by omega
      clear hls hd hvn hne hit HO HB HVP HE
      generalize wr.iterAt w1.heap.size ⟨l.toArray⟩ (pos + k) = W2 at *
      by_cases h92 : v = 92 ∧ e = false
      · obtain ⟨rfl, rfl⟩ := h92
        have HZ := Lib.hid (HLS.out.1 ⟨rfl, rfl⟩)
        clear HLS
        go_wp2_with (fail)
        go_roundw
        case rel => exact ⟨pos + k, true, acc, by omega, rfl, by omega, HO2, hit2, HZ, HVN, HB2⟩
        case measure => rw [iterPos_of hit2, HIT.out]; omega
      · have HZ := Lib.hid (HLS.out.2 h92)
        have htest : ∃ b, ((v : Int) == 92) = b ∧ (b = true → e = true) := ⟨_, rfl, fun q => by
          cases e with
          | true => rfl
          | false => exact absurd ⟨by simp at q; omega, rfl⟩ h92⟩
        obtain ⟨b, hb, hbe⟩ := htest
        have HST : ∀ (v1 : Value) (w5 : World), w5.ownsRow (w1.heap.size + 1) 91 2 v1 (acc.length + 1) (rowsE litV acc ++ litV (v, e)) → w5.ownsRow (w1.heap.size + 1) 91 2 v1 (acc ++ [(v, e)]).length (rowsE litV (acc ++ [(v, e)])) := fun v1 w5 h => by rw [rowsE_append, rowsE_one, List.length_append]; exact h
        have HSTT := Lib.hid HST
        clear HLS h92 HST
        cases b with
        | true =>
          obtain rfl := hbe rfl
          clear hbe
          go_wp2_with (at_builtin; refine wpList_append_own _ rfl _ _ 89 rfl (w1.heap.size + 1) 91 i0 _ 2 8 Tryd.underlying89 HI.out hz0 hz1 hz2 rfl (by decide) _ _ _ rfl (HO2.out.alloc _) ⟨W2.heap.size, 0, none⟩ 1 1 (litV (v, true)) rfl rfl (laid_rowL _ _ _) (litV_oneCell _) ?c3 ?c4 ?c5 ?_)
          case c3 => unfold maxLen; omega
          case c4 => omega
          case c5 => have := (Array.getElem?_eq_some_iff.1 hit2).1; simp; omega
          intro v1 w5 hown5 hg5 _
          have hltB := (Array.getElem?_eq_some_iff.1 hit2).1
          have hb5 : Below w.heap.size w w5 := (HB2.out.alloc HB2.out.size _).grown hg5 (by have := HB2.out.size; simp; omega) (fun k hk => by have := (HO2.out.lt k hk).1; have := HB1.out.size; omega)
          have hit5 : w5.heap[w1.heap.size]? = some (.stringIter ⟨l.toArray⟩ (pos + k)) := by
            rw [hg5.block w1.heap.size (by simp; omega) (fun e => by have := (HO2.out.lt _ e.symm).1; omega)]
            rw [heap_alloc_old _ _ hltB]; exact hit2
          have HO5 := Lib.hid (HSTT.out _ _ hown5)
          have HB5 := Lib.hid hb5
          clear hown5 hg5 hb5 HO2 HB2
          go_wp2_with (fail)
          go_roundw
          case rel => exact ⟨pos + k, false, acc ++ [(v, true)], by omega, rfl, by simp; omega, HO5, hit5, HZ, HVN, HB5⟩
          case measure => rw [iterPos_of hit5, HIT.out]; omega
        | false =>
          clear hbe
          go_wp2_with (at_builtin; refine wpList_append_own _ rfl _ _ 89 rfl (w1.heap.size + 1) 91 i0 _ 2 8 Tryd.underlying89 HI.out hz0 hz1 hz2 rfl (by decide) _ _ _ rfl (HO2.out.alloc _) ⟨W2.heap.size, 0, none⟩ 1 1 (litV (v, e)) rfl rfl (laid_rowL _ _ _) (litV_oneCell _) ?d3 ?d4 ?d5 ?_)
          case d3 => unfold maxLen; omega
          case d4 => omega
          case d5 => have := (Array.getElem?_eq_some_iff.1 hit2).1; simp; omega
          intro v1 w5 hown5 hg5 _
          have hltB := (Array.getElem?_eq_some_iff.1 hit2).1
          have hb5 : Below w.heap.size w w5 := (HB2.out.alloc HB2.out.size _).grown hg5 (by have := HB2.out.size; simp; omega) (fun k hk => by have := (HO2.out.lt k hk).1; have := HB1.out.size; omega)
          have hit5 : w5.heap[w1.heap.size]? = some (.stringIter ⟨l.toArray⟩ (pos + k)) := by
            rw [hg5.block w1.heap.size (by simp; omega) (fun e => by have := (HO2.out.lt _ e.symm).1; omega)]
            rw [heap_alloc_old _ _ hltB]; exact hit2
          have HO5 := Lib.hid (HSTT.out _ _ hown5)
          have HB5 := Lib.hid hb5
          clear hown5 hg5 hb5 HO2 HB2
          go_wp2_with (fail)
          go_roundw
          case rel => exact ⟨pos + k, false, acc ++ [(v, e)], by omega, rfl, by simp; omega, HO5, hit5, HZ, HVN, HB5⟩
          case measure => rw [iterPos_of hit5, HIT.out]; omega
    · have hnx : ∀ ty, (Instr.next (.pointer (some ⟨w1.heap.size, 0, none⟩)) true ty).run Tryd.prog wr = _ := fun ty => Lib.run_next_end_at wr w1.heap.size ⟨l.toArray⟩ pos ty hit (by rw [hsz]; exact hlp)
      have hL : acc = lits l := by
        have := HE.out
        rw [List.drop_eq_nil_of_le (by omega), lits_end] at this
        exact this
      rw [hL] at HO hal
      clear hL HE HVP
      generalize lits l = L at *
      have hLl : L.length ≤ 65536 := by omega
      obtain ⟨A, c, rfl, hc1, hc2, hrd⟩ := IsSlice.of_own HO.out
      obtain ⟨g, hg⟩ : ∃ g, 0 < L.length → A = some ⟨g, 0, none⟩ := by
        by_cases q : 0 < L.length
        · obtain ⟨g, c', e, _⟩ := rowsE_some HO.out q
          injection e with e1
          exact ⟨g, fun _ => e1⟩
        · exact ⟨0, fun h => absurd h q⟩
      have hcell : ∀ o (h : o < L.length), wr.cell? ⟨g, o * 2, none⟩ = some (.int .i32 (L[o].1 : Nat)) ∧ wr.cell? ⟨g, o * 2 + 1, none⟩ = some (.bool L[o].2) := fun o h => by
        have hO := HO.out
        rw [hg (by omega)] at hO
        exact ⟨rowsE_cell (i := 0) litV_length hO h (by omega), rowsE_cell (i := 1) litV_length hO h (by omega)⟩
      have HCE := Lib.hid hcell
      clear hcell HO hrd hal hit HC HV HI hp hlp hlt hll hsz
      go_wp2_with (fail)
      clear hnx
      go_loopw [6] (fun t6 W => ∃ (o m c' : Nat) (A' : Option Addr), o + m = L.length ∧ m ≤ c' ∧ c' ≤ 9223372036854775807 ∧ t6 = .slice A' m c' ∧ (0 < m → A' = some ⟨g, o * 2, none⟩) ∧ Hid (holdN L r = holdN (L.drop o) r) ∧ W = wr) (fun t6 _ => sliceLen t6)
      case atStart => exact ⟨0, L.length, c, A, by omega, hc1, hc2, rfl, by simpa using hg, Lib.hid (by rw [List.drop_zero]), rfl⟩
      case round =>
        obtain ⟨o, m, c', A', hom, hmc, hc63, rfl, hA, HE, rfl⟩ := hrel
        by_cases hm : 0 < m
        · obtain rfl := hA hm
          obtain ⟨k0, k1⟩ := HCE.out o (by omega)
          have hone := holdN_one_at (L := L) (r := r) (o := o) (by omega)
          by_cases hd : ∃ h : o + 2 < L.length, L[o + 1] = (45, false)
          · obtain ⟨h2, hd⟩ := hd
            obtain ⟨k2, k3⟩ := HCE.out (o + 1) (by omega)
            obtain ⟨k4, k5⟩ := HCE.out (o + 2) (by omega)
            have hds := holdN_dash_at (L := L) (r := r) (o := o) h2 hd
            rw [hd] at k2 k3
            have hm2 : (2 : Int) < m := by omega
            rw [show (o + 1) * 2 = o * 2 + 2 by omega] at k2 k3
            rw [show (o + 2) * 2 = o * 2 + 4 by omega] at k4 k5
            generalize L[o].1 = x at *
            generalize L[o + 2].1 = z at *
            clear hone hd
            have k2' : wr.cell? ⟨g, o * 2 + 2, none⟩ = some (.int .i32 45) := by simpa using k2
            have k3' : wr.cell? ⟨g, o * 2 + 2 + 1, none⟩ = some (.bool false) := by simpa using k3
            clear k2 k3 hA
            by_cases q1 : x ≤ r
            · have q1' : (x : Int) ≤ r := by omega
              by_cases q2 : r ≤ z
              · have q2' : (r : Int) ≤ z := by omega
                have HR2 := Lib.hid (show res = !nt by rw [HRES.out, HE.out, hds, decide_eq_true q1, decide_eq_true q2]; rfl)
                clear hds q1 q2
                go_wp2_with (fail)
                go_ret
                exact ⟨by rw [HR2.out]; rfl, HB.out⟩
              · have q2' : (z : Int) < r := by omega
                have HE2 := Lib.hid (show holdN L r = holdN (L.drop (o + 3)) r by rw [HE.out, hds, decide_eq_false q2, Bool.and_false, Bool.false_or])
                clear hds q1 q2
                go_wp2_with (fail)
                go_roundw
                case rel => exact ⟨o + 3, m - 3, c' - 3, _, by omega, by omega, by omega, rfl, fun q => by rw [if_neg (by omega), show (o + 3) * 2 = o * 2 + 6 by omega], HE2, by first | trivial | rfl⟩
                case measure => simp [sliceLen]; omega
            · have q1' : (r : Int) < x := by omega
              have HE2 := Lib.hid (show holdN L r = holdN (L.drop (o + 3)) r by rw [HE.out, hds, decide_eq_false q1, Bool.false_and, Bool.false_or])
              clear hds q1
              go_wp2_with (fail)
              go_roundw
              case rel => exact ⟨o + 3, m - 3, c' - 3, _, by omega, by omega, by omega, rfl, fun q => by rw [if_neg (by omega), show (o + 3) * 2 = o * 2 + 6 by omega], HE2, by first | trivial | rfl⟩
              case measure => simp [sliceLen]; omega
          · have hone' := hone (fun h e => hd ⟨h, e⟩)
            have hnd : ∀ h : o + 2 < L.length, ∃ (d : Nat) (de : Bool), wr.cell? ⟨g, o * 2 + 2, none⟩ = some (.int .i32 d) ∧ wr.cell? ⟨g, o * 2 + 2 + 1, none⟩ = some (.bool de) ∧ (((d : Int) == 45) = false ∨ (d = 45 ∧ de = true)) := fun h => by
              obtain ⟨k2, k3⟩ := HCE.out (o + 1) (by omega)
              rw [show (o + 1) * 2 = o * 2 + 2 by omega] at k2 k3
              refine ⟨_, _, k2, k3, ?_⟩
              by_cases e1 : L[o + 1].1 = 45
              · refine .inr ⟨e1, ?_⟩
                rw [← Bool.not_eq_false]
                exact fun e2 => hd ⟨h, Prod.ext e1 e2⟩
              · exact .inl (by rw [beq_eq_false_iff_ne]; omega)
            clear hone hd hA
            generalize L[o].1 = x at *
            by_cases q1 : x = r
            · have q1' : ((x : Int) == (r : Int)) = true := by simp; omega
              have HR2 := Lib.hid (show res = !nt by rw [HRES.out, HE.out, hone', q1]; simp)
              clear hone' q1
              by_cases hm2 : 2 < m
              · obtain ⟨d, de, k2, k3, k4⟩ := hnd (by omega)
                have hm2' : (2 : Int) < m := by omega
                clear hnd
                rcases k4 with k4 | ⟨rfl, rfl⟩
                · go_wp2_with (fail)
                  go_ret
                  exact ⟨by rw [HR2.out]; rfl, HB.out⟩
                · go_wp2_with (fail)
                  go_ret
                  exact ⟨by rw [HR2.out]; rfl, HB.out⟩
              · have hm2' : decide ((2 : Int) < m) = false := by simp; omega
                clear hnd hm2
                go_wp2_with (fail)
                go_ret
                exact ⟨by rw [HR2.out]; rfl, HB.out⟩
            · have q1' : ((x : Int) == (r : Int)) = false := by simp; omega
              have HE2 := Lib.hid (show holdN L r = holdN (L.drop (o + 1)) r by rw [HE.out, hone', beq_eq_false_iff_ne.2 q1, Bool.false_or])
              clear hone' q1
              by_cases hm2 : 2 < m
              · obtain ⟨d, de, k2, k3, k4⟩ := hnd (by omega)
                have hm2' : (2 : Int) < m := by omega
                clear hnd
                rcases k4 with k4 | ⟨rfl, rfl⟩
                · go_wp2_with (fail)
                  go_roundw
                  case rel => exact ⟨o + 1, m - 1, c' - 1, _, by omega, by omega, by omega, rfl, fun q => by (try rw [if_neg (by omega)]); rw [show (o + 1) * 2 = o * 2 + 2 by omega], HE2, by first | trivial | rfl⟩
                  case measure => simp [sliceLen]; omega
                · go_wp2_with (fail)
                  go_roundw
                  case rel => exact ⟨o + 1, m - 1, c' - 1, _, by omega, by omega, by omega, rfl, fun q => by (try rw [if_neg (by omega)]); rw [show (o + 1) * 2 = o * 2 + 2 by omega], HE2, by first | trivial | rfl⟩
                  case measure => simp [sliceLen]; omega
              · have hm2' : decide ((2 : Int) < m) = false := by simp; omega
                clear hnd hm2
                go_wp2_with (fail)
                go_roundw
                case rel => exact ⟨o + 1, m - 1, c' - 1, _, by omega, by omega, by omega, rfl, fun q => by (try rw [if_neg (by omega)]); rw [show (o + 1) * 2 = o * 2 + 2 by omega], HE2, by first | trivial | rfl⟩
                case measure => simp [sliceLen]; omega
        · have HR2 := Lib.hid (show res = nt by rw [HRES.out, HE.out, holdN_end (by omega)]; rfl)
          obtain rfl : m = 0 := by omega
          go_wp2_with (fail)
          go_ret
          exact ⟨by rw [HR2.out]; rfl, HB.out⟩
end Go.Proofs.YtgppfcaghjbjmaaDoor
