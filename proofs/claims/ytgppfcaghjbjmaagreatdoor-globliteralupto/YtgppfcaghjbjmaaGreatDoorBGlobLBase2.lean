/- Texts joined: Glob3, Glob4, Maps. -/
import Derived.Test.YtgppfcaghjbjmaaGreatDoorBGlobLBase1
import Derived.Test.YtgppfcaghjbjmaaGreatDoorBLitBase1
import Derived.Maps.Own
import Derived.Maps.Keyed
set_option linter.unusedSimpArgs false
set_option linter.unusedVariables false

/- glob.holds. -/
section
namespace Go.Proofs.YtgppfcaghjbjmaaGreatDoor
open Go.RowKit Plain

def litV (x : Nat × Bool) : List Value := [.int .i32 x.1, .bool x.2]
theorem litV_length (x : Nat × Bool) : (litV x).length = 2 := rfl
theorem litV_oneCell (x : Nat × Bool) : ∀ u ∈ litV x, u.oneCell' = true := by intro u hu; simp [litV] at hu; rcases hu with rfl | rfl <;> rfl
theorem info_lit : (Tryz.prog.info? 110).map (fun i => (i.zero, i.size, i.bytes)) = some (some (.agg #[.int .i32 0, .bool false]), 2, 8) := by kernel_rfl
theorem laid_rowL (w : World) (t : TypeId) (L : List Value) : ∀ j v, L[j]? = some v → (w.alloc (.cells L.toArray t)).cell? ((⟨w.heap.size, 0, none⟩ : Addr).add j) = some v := by
  intro j v hj
  have h : ((⟨w.heap.size, 0, none⟩ : Addr).add j) = ⟨w.heap.size, j, none⟩ := by unfold Addr.add; split <;> simp_all
  rw [h, cell_of_row _ _ _ L.toArray t (0, 0) (heap_alloc_new w _)]
  simpa using hj
theorem own_below' {w w' : World} {base : Nat} {e : TypeId} {size n : Nat} {v : Value} {xs : List Value} (h : w.ownsRow base e size v n xs) (hb : Below w.heap.size w w') : w'.ownsRow base e size v n xs := by
  refine ⟨h.1, ?_⟩
  rcases h.2 with h2 | ⟨g, cap, cur, rfl, hbg, hg, hr⟩
  · exact .inl h2
  · refine .inr ⟨g, cap, cur, rfl, hbg, ?_, hr⟩
    rw [hb.block g (Array.getElem?_eq_some_iff.1 hg).1]
    exact hg

/-- "!" cut off -/
def bang (s : List UInt8) : Bool := s.head? == some 33
def cutBang (s : List UInt8) : List UInt8 := if bang s then s.drop 1 else s
theorem sCutBang_any (s : List UInt8) (w : World) (hs : s.length ≤ 4294967280) :
    Calls Tryz.prog 92 #[.string ⟨s.toArray⟩, .string ⟨#[33]⟩] w (Ret w (.tuple #[.string ⟨(cutBang s).toArray⟩, .bool (bang s)])) := by
  have hpre := fun W => Tryz.stringslite_HasPrefix ⟨s.toArray⟩ ⟨[(33 : UInt8)].toArray⟩ W
  have hb : [(33 : UInt8)].isPrefixOf s = bang s := by
    cases s with
    | nil => rfl
    | cons c r =>
      rw [Bool.eq_iff_iff, List.isPrefixOf_iff_prefix]
      unfold bang
      rw [beq_iff_eq, List.head?_cons]
      constructor
      · rintro ⟨t, e⟩; injection e with e _; rw [← e]
      · intro e; injection e with e; subst e; exact ⟨r, rfl⟩
  have hpre2 : ∀ w, Calls Tryz.prog 44 #[.string ⟨s.toArray⟩, .string ⟨#[33]⟩] w (Ret w (.bool (bang s))) := fun w => (hpre w).mono fun _ _ ⟨he, hw⟩ => ⟨by rw [← hb]; exact he, hw ▸ Below.refl _ _⟩
  clear hpre hb
  unfold cutBang
  cases hb : bang s with
  | false =>
    rw [hb] at hpre2
    have HP := Lib.hid hpre2
    clear hpre2 hb
    go_enter Tryz.func92, Tryz.ntmps92
    go_wp2_with (fail)
    refine (HP.out _).mono ?_
    rintro e w1 ⟨rfl, hw1⟩
    go_wp2_with (fail)
    go_ret2
    exact ⟨rfl, hw1⟩
  | true =>
    rw [hb] at hpre2
    have HP := Lib.hid hpre2
    have hl : 1 ≤ s.length := by cases s with | nil => cases hb | cons => simp
    have hdt : s.tail.take (s.length - 1) = s.tail := List.take_of_length_le (by simp)
    clear hpre2 hb
    go_enter Tryz.func92, Tryz.ntmps92
    go_wp2_with (fail)
    refine (HP.out _).mono ?_
    rintro e w1 ⟨rfl, hw1⟩
    go_wp2_with (fail)
    go_ret2
    exact ⟨rfl, hw1⟩
theorem CutBang_any (s : List UInt8) (w : World) (hs : s.length ≤ 4294967280) :
    Calls Tryz.prog 78 #[.string ⟨s.toArray⟩, .string ⟨#[33]⟩] w (Ret w (.tuple #[.string ⟨(cutBang s).toArray⟩, .bool (bang s)])) := by
  have HP := Lib.hid (sCutBang_any s w hs)
  go_enter Tryz.func78, Tryz.ntmps78
  go_wp2_with (fail)
  refine HP.out.mono ?_
  rintro e w1 ⟨rfl, hw1⟩
  go_wp2_with (fail)
  go_ret2
  exact ⟨rfl, hw1⟩

theorem holdsP_cut {s t : List UInt8} (hv : Lib.validD s = true) (ht : IsRune t) : holdsP s t = if holdN (lits (cutBang s)) (valR t) then !bang s else bang s := by
  rw [holdsP_num hv ht]
  unfold cutBang
  have hb : bang s = true ↔ s.head? = some 33 := by unfold bang; simp
  by_cases h : s.head? = some 33
  · rw [if_pos h, hb.2 h, if_pos rfl]
    cases holdN (lits (s.drop 1)) (valR t) <;> rfl
  · have hb' : bang s = false := by rw [← Bool.not_eq_true]; exact fun c => h (hb.1 c)
    rw [if_neg h, hb']
    have e : (if false = true then s.drop 1 else s) = s := if_neg (by decide)
    rw [e]
    cases holdN (lits s) (valR t) <;> rfl
theorem cutBang_valid {s : List UInt8} (hv : Lib.validD s = true) : Lib.validD (cutBang s) = true ∧ (cutBang s).length ≤ s.length := by
  unfold cutBang bang
  cases s with
  | nil => exact ⟨hv, Nat.le_refl _⟩
  | cons c r =>
    by_cases h : c = 33
    · subst h; exact ⟨bang_valid hv, by simp⟩
    · have : ((c :: r).head? == some 33) = false := by simp [h]
      rw [this]; exact ⟨hv, Nat.le_refl _⟩

def sliceLen : Value → Nat
  | .slice _ n _ => n
  | _ => 0

set_option maxHeartbeats 4000000 in
set_option maxRecDepth 100000 in
theorem holds_any (s t : List UInt8) (w : World) (hv : Lib.validD s = true) (ht : IsRune t) (hs : s.length ≤ 65536) :
    Calls Tryz.prog 56 #[.string ⟨s.toArray⟩, .int .i32 (valR t : Nat)] w (Ret w (.bool (holdsP s t))) := by
  obtain ⟨i0, hi, hz0, hz1, hz2⟩ := info_parts info_lit
  rw [holdsP_cut hv ht]
  have hcut := CutBang_any s w (by omega)
  obtain ⟨hv2, hl2⟩ := cutBang_valid hv
  have hvr := valR_le t
  generalize valR t = r at *
  generalize bang s = nt at *
  generalize cutBang s = l at *
  have hll : l.length ≤ 65536 := by omega
  obtain ⟨res, hres⟩ : ∃ b, b = (if holdN (lits l) r then !nt else nt) := ⟨_, rfl⟩
  rw [← hres]
  have HRES := Lib.hid hres
  clear hres
  have hsz : (ByteArray.mk l.toArray).size = l.length := by simp [ByteArray.size]
  have HC := Lib.hid hcut
  have HV := Lib.hid hv2
  have HI := Lib.hid hi
  clear hcut hv2 hv ht hl2 hs hi
  go_enter Tryz.func56, Tryz.ntmps56
  go_wp2_with (fail)
  refine HC.out.mono ?_
  rintro e w1 ⟨rfl, hw1⟩
  have HB1 := Lib.hid hw1
  clear hw1
  go_wp2_with (fail)
  go_loopw [6, 7] (fun t6 t7 W => ∃ (pos : Nat) (e : Bool) (acc : List (Nat × Bool)), pos ≤ l.length ∧ t7 = .bool e ∧ acc.length ≤ pos ∧ Hid (W.ownsRow (w1.heap.size + 1) 110 2 t6 acc.length (rowsE litV acc)) ∧ W.heap[w1.heap.size]? = some (.stringIter ⟨l.toArray⟩ pos) ∧ Hid (acc ++ numL (litsR e (runesP (l.drop pos))) = lits l) ∧ Hid (Lib.validD (l.drop pos) = true) ∧ Hid (Below w.heap.size w W)) (fun _ _ W => l.length - W.iterPos w1.heap.size)
  case atStart => exact ⟨0, false, [], by omega, rfl, by simp, Lib.hid (World.ownsRow_nil _ _ _ _), by simpa using World.iter_heap w1 ⟨l.toArray⟩ 0, Lib.hid rfl, HV, Lib.hid (HB1.out.alloc HB1.out.size _)⟩
  case round =>
    obtain ⟨pos, e, acc, hp, rfl, hal, HO, hit, HE, HVP, HB⟩ := hrel
    have hlt := (Array.getElem?_eq_some_iff.1 hit).1
    by_cases hlp : pos < l.length
    · have hne : l.drop pos ≠ [] := by intro e; have := congrArg List.length e; simp at this; omega
      have hd := dec_at l pos
      rw [dec_valid hne HVP.out] at hd
      obtain ⟨hw1, hvn⟩ := valid_next hne HVP.out
      rw [List.drop_drop] at hvn
      have hwl := runeW_le' hne
      rw [List.length_drop] at hwl
      have hls := lits_step hne HVP.out HE.out
      rw [List.drop_drop] at hls
      have hnx : ∀ ty, (Instr.next (.pointer (some ⟨w1.heap.size, 0, none⟩)) true ty).run Tryz.prog wr = _ := fun ty => Lib.run_next_any_at wr w1.heap.size ⟨l.toArray⟩ pos ty hit (by rw [hsz]; exact hlp)
      rw [hd] at hnx
      have hvv := valR_le (runeT (l.drop pos))
      generalize valR (runeT (l.drop pos)) = v at *
      generalize runeW (l.drop pos) = k at *
      have HLS := Lib.hid hls
      have hit2 := Lib.iterAt_heap wr w1.heap.size ⟨l.toArray⟩ pos (pos + k) hit
      have HB2 := Lib.hid (Lib.below_iterAt HB.out (k := w1.heap.size) HB1.out.size ⟨l.toArray⟩ (pos + k))
      have HO2 := Lib.hid (ownsRow_iterAt HO.out (k := w1.heap.size) (by omega) ⟨l.toArray⟩ (pos + k))
      have HIT := Lib.hid (iterPos_of hit)
      have HVN := Lib.hid hvn
      have HNE := Lib.hid hne
      have hi0 : (0 : Int) ≤ pos := by omega
      clear hls hd hvn hne hit HO HB HVP HE
      generalize wr.iterAt w1.heap.size ⟨l.toArray⟩ (pos + k) = W2 at *
      by_cases h92 : v = 92 ∧ e = false
      · obtain ⟨rfl, rfl⟩ := h92
        have HZ := Lib.hid (HLS.out.1 ⟨rfl, rfl⟩)
        clear HLS
        go_wp2_with (fail)
        go_roundw
        case rel => exact ⟨pos + k, true, acc, by omega, rfl, by omega, HO2, hit2, HZ, HVN, HB2⟩
        case measure => rw [iterPos_of hit2, HIT.out]; omega
      · have HZ := Lib.hid (HLS.out.2 h92)
        have htest : ∃ b, ((v : Int) == 92) = b ∧ (b = true → e = true) := ⟨_, rfl, fun q => by
          cases e with
          | true => rfl
          | false => exact absurd ⟨by simp at q; omega, rfl⟩ h92⟩
        obtain ⟨b, hb, hbe⟩ := htest
        have HST : ∀ (v1 : Value) (w5 : World), w5.ownsRow (w1.heap.size + 1) 110 2 v1 (acc.length + 1) (rowsE litV acc ++ litV (v, e)) → w5.ownsRow (w1.heap.size + 1) 110 2 v1 (acc ++ [(v, e)]).length (rowsE litV (acc ++ [(v, e)])) := fun v1 w5 h => by rw [rowsE_append, rowsE_one, List.length_append]; exact h
        have HSTT := Lib.hid HST
        clear HLS h92 HST
        cases b with
        | true =>
          obtain rfl := hbe rfl
          clear hbe
          go_wp2_with (at_builtin; refine wpList_append_own _ rfl _ _ 108 rfl (w1.heap.size + 1) 110 i0 _ 2 8 Tryz.underlying108 HI.out hz0 hz1 hz2 rfl (by decide) _ _ _ rfl (HO2.out.alloc _) ⟨W2.heap.size, 0, none⟩ 1 1 (litV (v, true)) rfl rfl (laid_rowL _ _ _) (litV_oneCell _) ?c3 ?c4 ?c5 ?_)
          case c3 => unfold maxLen; omega
          case c4 => omega
          case c5 => have := (Array.getElem?_eq_some_iff.1 hit2).1; simp; omega
          intro v1 w5 hown5 hg5 _
          have hltB := (Array.getElem?_eq_some_iff.1 hit2).1
          have hb5 : Below w.heap.size w w5 := (HB2.out.alloc HB2.out.size _).grown hg5 (by have := HB2.out.size; simp; omega) (fun k hk => by have := (HO2.out.lt k hk).1; have := HB1.out.size; omega)
          have hit5 : w5.heap[w1.heap.size]? = some (.stringIter ⟨l.toArray⟩ (pos + k)) := by
            rw [hg5.block w1.heap.size (by simp; omega) (fun e => by have := (HO2.out.lt _ e.symm).1; omega)]
            rw [heap_alloc_old _ _ hltB]; exact hit2
          have HO5 := Lib.hid (HSTT.out _ _ hown5)
          have HB5 := Lib.hid hb5
          clear hown5 hg5 hb5 HO2 HB2
          go_wp2_with (fail)
          go_roundw
          case rel => exact ⟨pos + k, false, acc ++ [(v, true)], by omega, rfl, by simp; omega, HO5, hit5, HZ, HVN, HB5⟩
          case measure => rw [iterPos_of hit5, HIT.out]; omega
        | false =>
          clear hbe
          go_wp2_with (at_builtin; refine wpList_append_own _ rfl _ _ 108 rfl (w1.heap.size + 1) 110 i0 _ 2 8 Tryz.underlying108 HI.out hz0 hz1 hz2 rfl (by decide) _ _ _ rfl (HO2.out.alloc _) ⟨W2.heap.size, 0, none⟩ 1 1 (litV (v, e)) rfl rfl (laid_rowL _ _ _) (litV_oneCell _) ?d3 ?d4 ?d5 ?_)
          case d3 => unfold maxLen; omega
          case d4 => omega
          case d5 => have := (Array.getElem?_eq_some_iff.1 hit2).1; simp; omega
          intro v1 w5 hown5 hg5 _
          have hltB := (Array.getElem?_eq_some_iff.1 hit2).1
          have hb5 : Below w.heap.size w w5 := (HB2.out.alloc HB2.out.size _).grown hg5 (by have := HB2.out.size; simp; omega) (fun k hk => by have := (HO2.out.lt k hk).1; have := HB1.out.size; omega)
          have hit5 : w5.heap[w1.heap.size]? = some (.stringIter ⟨l.toArray⟩ (pos + k)) := by
            rw [hg5.block w1.heap.size (by simp; omega) (fun e => by have := (HO2.out.lt _ e.symm).1; omega)]
            rw [heap_alloc_old _ _ hltB]; exact hit2
          have HO5 := Lib.hid (HSTT.out _ _ hown5)
          have HB5 := Lib.hid hb5
          clear hown5 hg5 hb5 HO2 HB2
          go_wp2_with (fail)
          go_roundw
          case rel => exact ⟨pos + k, false, acc ++ [(v, e)], by omega, rfl, by simp; omega, HO5, hit5, HZ, HVN, HB5⟩
          case measure => rw [iterPos_of hit5, HIT.out]; omega
    · have hnx : ∀ ty, (Instr.next (.pointer (some ⟨w1.heap.size, 0, none⟩)) true ty).run Tryz.prog wr = _ := fun ty => Lib.run_next_end_at wr w1.heap.size ⟨l.toArray⟩ pos ty hit (by rw [hsz]; exact hlp)
      have hL : acc = lits l := by
        have := HE.out
        rw [List.drop_eq_nil_of_le (by omega), lits_end] at this
        exact this
      rw [hL] at HO hal
      clear hL HE HVP
      generalize lits l = L at *
      have hLl : L.length ≤ 65536 := by omega
      obtain ⟨A, c, rfl, hc1, hc2, hrd⟩ := IsSlice.of_own HO.out
      obtain ⟨g, hg⟩ : ∃ g, 0 < L.length → A = some ⟨g, 0, none⟩ := by
        by_cases q : 0 < L.length
        · obtain ⟨g, c', e, _⟩ := rowsE_some HO.out q
          injection e with e1
          exact ⟨g, fun _ => e1⟩
        · exact ⟨0, fun h => absurd h q⟩
      have hcell : ∀ o (h : o < L.length), wr.cell? ⟨g, o * 2, none⟩ = some (.int .i32 (L[o].1 : Nat)) ∧ wr.cell? ⟨g, o * 2 + 1, none⟩ = some (.bool L[o].2) := fun o h => by
        have hO := HO.out
        rw [hg (by omega)] at hO
        exact ⟨rowsE_cell (i := 0) litV_length hO h (by omega), rowsE_cell (i := 1) litV_length hO h (by omega)⟩
      have HCE := Lib.hid hcell
      clear hcell HO hrd hal hit HC HV HI hp hlp hlt hll hsz
      go_wp2_with (fail)
      clear hnx
      go_loopw [6] (fun t6 W => ∃ (o m c' : Nat) (A' : Option Addr), o + m = L.length ∧ m ≤ c' ∧ c' ≤ 9223372036854775807 ∧ t6 = .slice A' m c' ∧ (0 < m → A' = some ⟨g, o * 2, none⟩) ∧ Hid (holdN L r = holdN (L.drop o) r) ∧ W = wr) (fun t6 _ => sliceLen t6)
      case atStart => exact ⟨0, L.length, c, A, by omega, hc1, hc2, rfl, by simpa using hg, Lib.hid (by rw [List.drop_zero]), rfl⟩
      case round =>
        obtain ⟨o, m, c', A', hom, hmc, hc63, rfl, hA, HE, rfl⟩ := hrel
        by_cases hm : 0 < m
        · obtain rfl := hA hm
          obtain ⟨k0, k1⟩ := HCE.out o (by omega)
          have hone := holdN_one_at (L := L) (r := r) (o := o) (by omega)
          by_cases hd : ∃ h : o + 2 < L.length, L[o + 1] = (45, false)
          · obtain ⟨h2, hd⟩ := hd
            obtain ⟨k2, k3⟩ := HCE.out (o + 1) (by omega)
            obtain ⟨k4, k5⟩ := HCE.out (o + 2) (by omega)
            have hds := holdN_dash_at (L := L) (r := r) (o := o) h2 hd
            rw [hd] at k2 k3
            have hm2 : (2 : Int) < m := by omega
            rw [show (o + 1) * 2 = o * 2 + 2 by omega] at k2 k3
            rw [show (o + 2) * 2 = o * 2 + 4 by omega] at k4 k5
            generalize L[o].1 = x at *
            generalize L[o + 2].1 = z at *
            clear hone hd
            have k2' : wr.cell? ⟨g, o * 2 + 2, none⟩ = some (.int .i32 45) := by simpa using k2
            have k3' : wr.cell? ⟨g, o * 2 + 2 + 1, none⟩ = some (.bool false) := by simpa using k3
            clear k2 k3 hA
            by_cases q1 : x ≤ r
            · have q1' : (x : Int) ≤ r := by omega
              by_cases q2 : r ≤ z
              · have q2' : (r : Int) ≤ z := by omega
                have HR2 := Lib.hid (show res = !nt by rw [HRES.out, HE.out, hds, decide_eq_true q1, decide_eq_true q2]; rfl)
                clear hds q1 q2
                go_wp2_with (fail)
                go_ret
                exact ⟨by rw [HR2.out]; rfl, HB.out⟩
              · have q2' : (z : Int) < r := by omega
                have HE2 := Lib.hid (show holdN L r = holdN (L.drop (o + 3)) r by rw [HE.out, hds, decide_eq_false q2, Bool.and_false, Bool.false_or])
                clear hds q1 q2
                go_wp2_with (fail)
                go_roundw
                case rel => exact ⟨o + 3, m - 3, c' - 3, _, by omega, by omega, by omega, rfl, fun q => by rw [if_neg (by omega), show (o + 3) * 2 = o * 2 + 6 by omega], HE2, by first | trivial | rfl⟩
                case measure => simp [sliceLen]; omega
            · have q1' : (r : Int) < x := by omega
              have HE2 := Lib.hid (show holdN L r = holdN (L.drop (o + 3)) r by rw [HE.out, hds, decide_eq_false q1, Bool.false_and, Bool.false_or])
              clear hds q1
              go_wp2_with (fail)
              go_roundw
              case rel => exact ⟨o + 3, m - 3, c' - 3, _, by omega, by omega, by omega, rfl, fun q => by rw [if_neg (by omega), show (o + 3) * 2 = o * 2 + 6 by omega], HE2, by first | trivial | rfl⟩
              case measure => simp [sliceLen]; omega
          · have hone' := hone (fun h e => hd ⟨h, e⟩)
            have hnd : ∀ h : o + 2 < L.length, ∃ (d : Nat) (de : Bool), wr.cell? ⟨g, o * 2 + 2, none⟩ = some (.int .i32 d) ∧ wr.cell? ⟨g, o * 2 + 2 + 1, none⟩ = some (.bool de) ∧ (((d : Int) == 45) = false ∨ (d = 45 ∧ de = true)) := fun h => by
              obtain ⟨k2, k3⟩ := HCE.out (o + 1) (by omega)
              rw [show (o + 1) * 2 = o * 2 + 2 by omega] at k2 k3
              refine ⟨_, _, k2, k3, ?_⟩
              by_cases e1 : L[o + 1].1 = 45
              · refine .inr ⟨e1, ?_⟩
                rw [← Bool.not_eq_false]
                exact fun e2 => hd ⟨h, Prod.ext e1 e2⟩
              · exact .inl (by rw [beq_eq_false_iff_ne]; omega)
            clear hone hd hA
            generalize L[o].1 = x at *
            by_cases q1 : x = r
            · have q1' : ((x : Int) == (r : Int)) = true := by simp; omega
              have HR2 := Lib.hid (show res = !nt by rw [HRES.out, HE.out, hone', q1]; simp)
              clear hone' q1
              by_cases hm2 : 2 < m
              · obtain ⟨d, de, k2, k3, k4⟩ := hnd (by omega)
                have hm2' : (2 : Int) < m := by omega
                clear hnd
                rcases k4 with k4 | ⟨rfl, rfl⟩
                · go_wp2_with (fail)
                  go_ret
                  exact ⟨by rw [HR2.out]; rfl, HB.out⟩
                · go_wp2_with (fail)
                  go_ret
                  exact ⟨by rw [HR2.out]; rfl, HB.out⟩
              · have hm2' : decide ((2 : Int) < m) = false := by simp; omega
                clear hnd hm2
                go_wp2_with (fail)
                go_ret
                exact ⟨by rw [HR2.out]; rfl, HB.out⟩
            · have q1' : ((x : Int) == (r : Int)) = false := by simp; omega
              have HE2 := Lib.hid (show holdN L r = holdN (L.drop (o + 1)) r by rw [HE.out, hone', beq_eq_false_iff_ne.2 q1, Bool.false_or])
              clear hone' q1
              by_cases hm2 : 2 < m
              · obtain ⟨d, de, k2, k3, k4⟩ := hnd (by omega)
                have hm2' : (2 : Int) < m := by omega
                clear hnd
                rcases k4 with k4 | ⟨rfl, rfl⟩
                · go_wp2_with (fail)
                  go_roundw
                  case rel => exact ⟨o + 1, m - 1, c' - 1, _, by omega, by omega, by omega, rfl, fun q => by (try rw [if_neg (by omega)]); rw [show (o + 1) * 2 = o * 2 + 2 by omega], HE2, by first | trivial | rfl⟩
                  case measure => simp [sliceLen]; omega
                · go_wp2_with (fail)
                  go_roundw
                  case rel => exact ⟨o + 1, m - 1, c' - 1, _, by omega, by omega, by omega, rfl, fun q => by (try rw [if_neg (by omega)]); rw [show (o + 1) * 2 = o * 2 + 2 by omega], HE2, by first | trivial | rfl⟩
                  case measure => simp [sliceLen]; omega
              · have hm2' : decide ((2 : Int) < m) = false := by simp; omega
                clear hnd hm2
                go_wp2_with (fail)
                go_roundw
                case rel => exact ⟨o + 1, m - 1, c' - 1, _, by omega, by omega, by omega, rfl, fun q => by (try rw [if_neg (by omega)]); rw [show (o + 1) * 2 = o * 2 + 2 by omega], HE2, by first | trivial | rfl⟩
                case measure => simp [sliceLen]; omega
        · have HR2 := Lib.hid (show res = nt by rw [HRES.out, HE.out, holdN_end (by omega)]; rfl)
          obtain rfl : m = 0 := by omega
          go_wp2_with (fail)
          go_ret
          exact ⟨by rw [HR2.out]; rfl, HB.out⟩
end Go.Proofs.YtgppfcaghjbjmaaGreatDoor
end

/- glob.one, glob.part. -/
section
set_option linter.unusedVariables false
namespace Go.Proofs.YtgppfcaghjbjmaaGreatDoor
open Go.RowKit Plain

theorem dec_any_valid (l : List UInt8) (hne : l ≠ []) (hv : Lib.validD l = true) (w : World) (hT : Tabs w) :
    Calls Tryz.prog 29 #[.string ⟨l.toArray⟩] w (Ret w (.tuple #[.int .i32 (valR (runeT l) : Nat), .int .i64 (runeW l : Nat)])) := by
  have h := Decode_any l hne w hT
  rw [dec_valid hne hv] at h
  exact h
theorem one_q (q r : List UInt8) : oneP (63 :: q) r = (true, 1) := rfl
theorem one_back (q r : List UInt8) : oneP (92 :: q) r = (runeT q == r, 1 + runeW q) := rfl
theorem one_set {q : List UInt8} {e : Nat} (r : List UInt8) (h : closeP (91 :: q) = some e) : oneP (91 :: q) r = (holdsP (((91 :: q).take e).drop 1) r, e + 1) := by
  show (match closeP (91 :: q) with
      | some e => (holdsP (((91 :: q).take e).drop 1) r, e + 1)
      | none => (false, 1)) = _
  rw [h]
theorem one_plain {c : UInt8} {q : List UInt8} (r : List UInt8) (h1 : c ≠ 63) (h2 : c ≠ 92) (h3 : c ≠ 91) : oneP (c :: q) r = (runeT (c :: q) == r, runeW (c :: q)) := by
  unfold oneP
  simp only
  rw [if_neg h1, if_neg h2, if_neg h3]

def OneOut (p t : List UInt8) (w : World) (e : Ending) (w' : World) : Prop := Ret w (.tuple #[.bool (oneP p t).1, .string ⟨(p.drop (oneP p []).2).toArray⟩]) e w'

set_option maxHeartbeats 2000000 in
theorem one_any (c : UInt8) (q t : List UInt8) (w : World) (hT : Tabs w) (hv : Lib.validD (c :: q) = true) (hw : wfP (c :: q) = true) (ht : IsRune t) (hs : (c :: q).length ≤ 65536) :
    Calls Tryz.prog 40 #[.string ⟨(c :: q : List UInt8).toArray⟩, .int .i32 (valR t : Nat)] w (OneOut (c :: q) t w) := by
  unfold OneOut
  have hql : q.length ≤ 65536 := by simp at hs; omega
  by_cases h63 : c = 63
  · subst h63
    rw [one_q, one_q]
    generalize valR t = r at *
    clear hv hw hT ht
    go_enter Tryz.func40, Tryz.ntmps40
    go_wp2_with (fail)
    refine wp_region_below (by kernel_rfl) (by kernel_rfl) ?_
    repeat (go_big_quiet_step (fail))
    refine wpQuiet_nil ?_
    intro W2 hW2
    go_wp2_with (fail)
    go_ret2
    exact ⟨rfl, hW2⟩
  by_cases h91 : c = 91
  · subst h91
    obtain ⟨e, he, hw2⟩ := wfP_set hw
    obtain ⟨a1, a2, a3, a4⟩ := inner_valid hv he
    rw [one_set t he, one_set [] he]
    have hset := set_any q w (by simp; omega)
    have hhold := fun W => holds_any (((91 :: q).take e).drop 1) t W a3 ht (by simp; omega)
    have HS := Lib.hid hset
    have HH := Lib.hid hhold
    have HE := Lib.hid he
    clear hset hhold he hw2 a1 a2 a3 a4 hv hw hT ht h63
    generalize valR t = r at *
    generalize hin : ((91 :: q : List UInt8).take e).drop 1 = ii at *
    generalize hrr : (91 :: q : List UInt8).drop (e + 1) = rr at *
    have HIN := Lib.hid hin
    have HRR := Lib.hid hrr
    clear hin hrr
    go_enter Tryz.func40, Tryz.ntmps40
    go_wp2_with (fail)
    refine HS.out.mono ?_
    rintro ee w1 ⟨h1, _, hw1⟩
    obtain rfl := h1 e HE.out
    rw [HIN.out, HRR.out]
    clear h1
    go_wp2_with (fail)
    refine (HH.out _).mono ?_
    rintro ee w2 ⟨rfl, hw2⟩
    go_wp2_with (fail)
    go_ret2
    exact ⟨rfl, hw1.trans (hw2.mono hw1.size)⟩
  by_cases h92 : c = 92
  · subst h92
    cases q with
    | nil => rw [wfP_back_nil] at hw; cases hw
    | cons d q =>
      rw [Lib.validD_cons _ _ (by decide)] at hv
      have hne : (d :: q) ≠ [] := by simp
      obtain ⟨hw1, _⟩ := valid_next hne hv
      have hr1 := (runeT_rune hne hw1).1
      have hD := fun W (hb : Below w.heap.size w W) => dec_any_valid (d :: q) hne hv W (Utf8Tabs_below hT hb)
      have hsame := rune_same hr1 ht
      have hlen := runeW_le' hne
      rw [one_back, one_back, Nat.add_comm 1, List.drop_succ_cons]
      simp only
      rw [hsame]
      have hqd : ((d :: q).drop (runeW (d :: q))).take (q.length + 1 - runeW (d :: q)) = (d :: q).drop (runeW (d :: q)) := List.take_of_length_le (by simp)
      have hz : (0 : Int) ≤ (runeW (d :: q) : Int) := by omega
      generalize valR (runeT (d :: q)) = v at *
      generalize runeW (d :: q) = k at *
      generalize valR t = r at *
      have heq : ((v : Int) == (r : Int)) = (v == r) := by rw [Bool.eq_iff_iff, beq_iff_eq, beq_iff_eq]; omega
      generalize (v == r) = b at *
      have HD := Lib.hid hD
      have hkl : (k : Int) ≤ (q.length : Int) + 1 := by simp at hlen; omega
      clear hD hT hv hw ht hr1 hsame hw1 hne h63 h91
      generalize hdd : (d :: q).drop k = dd at *
      have HDD := Lib.hid hdd
      go_enter Tryz.func40, Tryz.ntmps40
      go_wp2_with (fail)
      refine (HD.out _ (Below.refl _ _)).mono ?_
      rintro ee w1 ⟨rfl, hw1⟩
      go_wp2_with (fail)
      refine wp_region_below (by kernel_rfl) (by kernel_rfl) ?_
      repeat (go_big_quiet_step (fail))
      refine wpQuiet_nil ?_
      intro W2 hW2
      go_wp2_with (fail)
      go_ret2
      exact ⟨rfl, hw1.trans (hW2.mono hw1.size)⟩
  · rw [one_plain t h63 h92 h91, one_plain [] h63 h92 h91]
    have hne : (c :: q) ≠ [] := by simp
    obtain ⟨hw1, _⟩ := valid_next hne hv
    have hr1 := (runeT_rune hne hw1).1
    have hD := fun W (hb : Below w.heap.size w W) => dec_any_valid (c :: q) hne hv W (Utf8Tabs_below hT hb)
    have hsame := rune_same hr1 ht
    have hlen := runeW_le' hne
    simp only
    rw [hsame]
    have h63' := u8_ne (n := 63) (by omega) h63
    have h92' := u8_ne (n := 92) (by omega) h92
    have h91' := u8_ne (n := 91) (by omega) h91
    have hqd : ((c :: q).drop (runeW (c :: q))).take (q.length + 1 - runeW (c :: q)) = (c :: q).drop (runeW (c :: q)) := List.take_of_length_le (by simp)
    have hz : (0 : Int) ≤ (runeW (c :: q) : Int) := by omega
    generalize valR (runeT (c :: q)) = v at *
    generalize runeW (c :: q) = k at *
    generalize valR t = r at *
    have heq : ((v : Int) == (r : Int)) = (v == r) := by rw [Bool.eq_iff_iff, beq_iff_eq, beq_iff_eq]; omega
    generalize (v == r) = b at *
    have HD := Lib.hid hD
    have hkl : (k : Int) ≤ (q.length : Int) + 1 := by simp at hlen; omega
    clear hD hT hv hw ht hr1 hsame hw1 hne h63 h91 h92
    generalize hdd : (c :: q).drop k = dd at *
    have HDD := Lib.hid hdd
    go_enter Tryz.func40, Tryz.ntmps40
    go_wp2_with (fail)
    refine (HD.out _ (Below.refl _ _)).mono ?_
    rintro ee w1 ⟨rfl, hw1⟩
    go_wp2_with (fail)
    refine wp_region_below (by kernel_rfl) (by kernel_rfl) ?_
    repeat (go_big_quiet_step (fail))
    refine wpQuiet_nil ?_
    intro W2 hW2
    go_wp2_with (fail)
    go_ret2
    exact ⟨rfl, hw1.trans (hW2.mono hw1.size)⟩

theorem dropWhile_all (c : UInt8) : ∀ (l : List UInt8), (l.dropWhile (· == c)).isEmpty = l.all (· == c)
  | [] => rfl
  | x :: l => by
    rw [List.dropWhile_cons, List.all_cons]
    cases h : x == c with
    | true => rw [if_pos rfl, Bool.true_and]; exact dropWhile_all c l
    | false => rw [if_neg (by decide)]; rfl
theorem trimB_star (p : List UInt8) : (Lib.trimB p 42).isEmpty = p.all (· == 42) := by
  unfold Lib.trimB Lib.trimLeftB
  rw [dropWhile_all]
  unfold Lib.trimRightB
  rw [List.all_reverse]
  have h : ∀ l : List UInt8, (l.dropWhile (· == 42)).all (· == 42) = l.all (· == 42) := by
    intro l
    induction l with
    | nil => rfl
    | cons x l ih =>
      rw [List.dropWhile_cons, List.all_cons]
      cases h : x == 42 with
      | true => rw [if_pos rfl, Bool.true_and]; exact ih
      | false => rw [if_neg (by decide), List.all_cons, h]
  rw [h, List.all_reverse]
def starOf : Value → Bool
  | .bool b => b
  | _ => false
def partMeas (P N ta tf tn : Nat) (star : Bool) : Nat := (if star then ta else P + 1) * ((N + 1) * (N + 1)) + (tf * (N + 1) + tn)
theorem meas_star {P N ta tf tn tn' ta' tf' : Nat} {star : Bool} (h : ta' < (if star then ta else P + 1)) (hf : tf' ≤ N) (hn : tn' ≤ N) : partMeas P N ta' tf' tn' true < partMeas P N ta tf tn star := by
  unfold partMeas
  rw [if_pos rfl]
  generalize (if star then ta else P + 1) = a at *
  have h1 : (ta' + 1) * ((N + 1) * (N + 1)) ≤ a * ((N + 1) * (N + 1)) := Nat.mul_le_mul_right _ h
  rw [Nat.add_mul, Nat.one_mul] at h1
  have h2 : tf' * (N + 1) ≤ N * (N + 1) := Nat.mul_le_mul_right _ hf
  have h3 : (N + 1) * (N + 1) = N * (N + 1) + (N + 1) := by rw [Nat.add_mul, Nat.one_mul]
  generalize (N + 1) * (N + 1) = M at *
  omega
theorem meas_back {P N ta tf tn tn' tf' : Nat} {star : Bool} (hf : tf' < tf) (hn : tn' ≤ N) : partMeas P N ta tf' tn' star < partMeas P N ta tf tn star := by
  unfold partMeas
  have h1 : (tf' + 1) * (N + 1) ≤ tf * (N + 1) := Nat.mul_le_mul_right _ hf
  rw [Nat.add_mul, Nat.one_mul] at h1
  omega
theorem meas_one {P N ta tf tn tn' : Nat} {star : Bool} (hn : tn' < tn) : partMeas P N ta tf tn' star < partMeas P N ta tf tn star := by
  unfold partMeas
  omega

set_option maxHeartbeats 4000000 in
set_option maxRecDepth 100000 in
theorem part_any (p0 n0 : List UInt8) (w : World) (hT : Tabs w) (hv : Lib.validD p0 = true) (hw : wfP p0 = true) (hn : Lib.validD n0 = true) (hp : p0.length ≤ 65536) (hnl : n0.length ≤ 65536) :
    Calls Tryz.prog 26 #[.string ⟨p0.toArray⟩, .string ⟨n0.toArray⟩] w (Ret w (.bool (partP p0 n0))) := by
  have hS := PSt.start hv hw hn
  have HT := Lib.hid (fun W (hb : Below w.heap.size w W) => Utf8Tabs_below hT hb)
  generalize hres : partP p0 n0 = res
  have HRES := Lib.hid hres
  have HS := Lib.hid hS
  have HPRE := Lib.hid (fun (p : List UInt8) (W : World) => Tryz.strings_HasPrefix ⟨p.toArray⟩ ⟨[(42 : UInt8)].toArray⟩ W)
  clear hres hS hT hv hw hn
  go_enter Tryz.func26, Tryz.ntmps26
  go_wp2_with (fail)
  go_loopw [0, 1, 5, 6, 7] (fun t0 t1 t5 t6 t7 W => ∃ (p n again fr : List UInt8) (star : Bool), t0 = .string ⟨p.toArray⟩ ∧ t1 = .string ⟨n.toArray⟩ ∧ t5 = .string ⟨again.toArray⟩ ∧ t6 = .string ⟨fr.toArray⟩ ∧ t7 = .bool star ∧ Hid (PSt p0 n0 p n again fr star) ∧ Hid (star = true → p.length ≤ again.length) ∧ Hid (Below w.heap.size w W))
    (fun _ t1 t5 t6 t7 _ => partMeas p0.length n0.length (strLenG t5) (strLenG t6) (strLenG t1) (starOf t7))
  case atStart => exact ⟨p0, n0, [], [], false, rfl, rfl, rfl, rfl, rfl, HS, Lib.hid (fun h => by cases h), Lib.hid (Below.refl _ _)⟩
  case round =>
    obtain ⟨p, n, again, fr, star, rfl, rfl, rfl, rfl, rfl, HP, HPA, HB⟩ := hrel
    clear HS
    have hlp := HP.out.lp
    have hln := HP.out.ln
    have hlf := HP.out.lf
    have hla := HP.out.la
    have HLF := Lib.hid hlf
    by_cases hn0 : n = []
    · subst hn0
      have hfin := HP.out.fin
      have htr := Tryz.strings_Trim_one ⟨p.toArray⟩ 42 (by decide) wr (by simp [ByteArray.size]; omega)
      have hts := trimB_star p
      rw [show (ByteArray.mk p.toArray).data.toList = p from rfl] at htr
      generalize Lib.trimB p 42 = tr at *
      have HTR := Lib.hid htr
      have HF := Lib.hid (show tr.isEmpty = res by rw [hts, ← hfin]; exact HRES.out)
      clear htr hts hfin
      go_wp2_with (fail)
      refine HTR.out.mono ?_
      rintro e w1 ⟨rfl, hw1⟩
      have hb1 : Below wr.heap.size wr w1 := by rcases hw1 with rfl | rfl; exact Below.refl _ _; exact (Below.refl _ _).drew
      clear hw1
      go_wp2_with (fail)
      go_ret
      exact ⟨by rw [← HF.out]; rfl, HB.out.trans (hb1.mono HB.out.size)⟩
    have hne : n.isEmpty = false := by cases n; exact absurd rfl hn0; rfl
    have hpre := HPRE.out p
    rcases (show (∃ q, p = 42 :: q) ∨ (∀ c q, p = c :: q → c ≠ 42) from by
      cases p with
      | nil => exact .inr (fun c q e => by cases e)
      | cons c q =>
        by_cases h : c = 42
        · exact .inl ⟨q, by rw [h]⟩
        · exact .inr (fun c' q' e => by injection e with e _; rw [← e]; exact h)) with ⟨q, rfl⟩ | hc
    · have HP2 := Lib.hid HP.out.star
      have hpr : ∀ W, Calls Tryz.prog 30 #[.string ⟨(42 :: q : List UInt8).toArray⟩, .string ⟨#[42]⟩] W (Ret W (.bool true)) := fun W => (hpre W).mono fun _ _ ⟨he, hw⟩ => ⟨he, hw ▸ Below.refl _ _⟩
      have HPR := Lib.hid hpr
      have hql : q.length + 1 ≤ p0.length := by simpa using hlp
      have HM := Lib.hid (show q.length < (if star then again.length else p0.length + 1) by
        cases star with
        | true => have := HPA.out rfl; simp at this; rw [if_pos rfl]; omega
        | false => rw [if_neg (by decide)]; omega)
      clear hpre hpr hn0 hla hlf hlp
      go_wp2_with (fail)
      refine (HPR.out _).mono ?_
      rintro e w1 ⟨rfl, hw1⟩
      have HB1 := Lib.hid (HB.out.trans (hw1.mono HB.out.size))
      clear hw1
      go_wp2_with (fail)
      go_roundw
      case rel => exact ⟨q, n, q, n, true, rfl, rfl, rfl, rfl, rfl, HP2, Lib.hid (fun _ => Nat.le_refl _), HB1⟩
      case measure =>
        have := meas_star (P := p0.length) (N := n0.length) (tf := fr.length) (tn := n.length) HM.out hln hln
        simpa [strLenG, starOf, ByteArray.size] using this
    · obtain ⟨r1, r2⟩ := valid_next hn0 HP.out.vn
      have hrr := (runeT_rune hn0 r1).1
      have hpr : ∀ W, Calls Tryz.prog 30 #[.string ⟨p.toArray⟩, .string ⟨#[42]⟩] W (Ret W (.bool false)) := fun W => (hpre W).mono fun _ _ ⟨he, hw⟩ => ⟨by
        rw [he]
        congr 2
        show [(42 : UInt8)].isPrefixOf p = false
        cases p with
        | nil => rfl
        | cons c q =>
          rw [← Bool.not_eq_true, List.isPrefixOf_iff_prefix]
          rintro ⟨t, e⟩
          injection e with e _
          exact hc c q rfl e.symm, hw ▸ Below.refl _ _⟩
      have HPR := Lib.hid hpr
      have hdec := fun W (hb : Below w.heap.size w W) => dec_any_valid n hn0 HP.out.vn W (HT.out W hb)
      have hwl := runeW_le' hn0
      have HN0 := Lib.hid hn0
      have HDEC := Lib.hid hdec
      clear hpre hpr hdec r2
      cases p with
      | nil =>
        cases star with
        | false =>
          have HF := Lib.hid (show res = false by rw [← HRES.out]; exact HP.out.fail hn0 (.inl rfl))
          clear hn0 hrr hwl r1 hc
          generalize valR (runeT n) = v at *
          generalize runeW n = k at *
          go_wp2_with (fail)
          refine (HPR.out _).mono ?_
          rintro e w1 ⟨rfl, hw1⟩
          have hB1 := HB.out.trans (hw1.mono HB.out.size)
          clear hw1
          go_wp2_with (fail)
          refine (HDEC.out _ hB1).mono ?_
          rintro e w2 ⟨rfl, hw2⟩
          have hB2 := hB1.trans (hw2.mono hB1.size)
          clear hw2 hB1
          go_wp2_with (fail)
          go_ret
          exact ⟨by rw [HF.out]; rfl, hB2⟩
        | true =>
          obtain ⟨f1, f2, hS2⟩ := HP.out.back hn0 (.inl rfl)
          have HS2 := Lib.hid hS2
          have hfd := fun W (hb : Below w.heap.size w W) => dec_any_valid fr f1 HP.out.vf W (HT.out W hb)
          have HFD := Lib.hid hfd
          have hfl := runeW_le' f1
          have hz2 : (0 : Int) ≤ (runeW fr : Int) := by omega
          clear hS2 hfd f1 hn0 hrr hwl r1 hc
          generalize valR (runeT n) = v at *
          generalize runeW n = k at *
          generalize valR (runeT fr) = v2 at *
          generalize hk2 : runeW fr = k2 at *
          generalize hff : fr.drop k2 = fr2 at *
          have HFF := Lib.hid hff
          have hfr2 : fr2.length < fr.length := by rw [← hff]; simp; omega
          have htk2 : fr2.take (fr.length - k2) = fr2 := List.take_of_length_le (by rw [← hff]; simp)
          go_wp2_with (fail)
          refine (HPR.out _).mono ?_
          rintro e w1 ⟨rfl, hw1⟩
          have hB1 := HB.out.trans (hw1.mono HB.out.size)
          clear hw1
          go_wp2_with (fail)
          refine (HDEC.out _ hB1).mono ?_
          rintro e w2 ⟨rfl, hw2⟩
          have hB2 := hB1.trans (hw2.mono hB1.size)
          clear hw2 hB1
          go_wp2_with (fail)
          refine (HFD.out _ hB2).mono ?_
          rintro e w3 ⟨rfl, hw3⟩
          have HB3 := Lib.hid (hB2.trans (hw3.mono hB2.size))
          clear hw3 hB2
          go_wp2_with (fail)
          go_roundw
          case rel => exact ⟨again, fr2, again, fr2, true, rfl, rfl, rfl, rfl, rfl, HS2, Lib.hid (fun _ => Nat.le_refl _), HB3⟩
          case measure =>
            have := meas_back (P := p0.length) (N := n0.length) (ta := again.length) (tn := n.length) (star := true) hfr2 (show fr2.length ≤ n0.length by have := HLF.out; omega)
            simpa [strLenG, starOf, ByteArray.size] using this
      | cons c q =>
        have hc42 := hc c q rfl
        have hone := fun W (hb : Below w.heap.size w W) => one_any c q (runeT n) W (HT.out W hb) HP.out.vp HP.out.wp hrr (by omega)
        have hst1 := fun h => HP.out.one (c := c) (q := q) hc42 hn0 h
        unfold OneOut at hone
        have hle1 : ((c :: q).drop (oneP (c :: q) []).2).length ≤ (c :: q).length := by rw [List.length_drop]; omega
        have hno : (oneP (c :: q) (runeT n)).1 = false → ((c :: q) = [] ∨ ∃ c' q', (c :: q) = c' :: q' ∧ c' ≠ 42 ∧ (oneP (c :: q) (runeT n)).1 = false) := fun h => .inr ⟨c, q, rfl, hc42, h⟩
        generalize hrest : (c :: q).drop (oneP (c :: q) []).2 = rest at *
        cases ho : (oneP (c :: q) (runeT n)).1 with
        | true =>
          rw [ho] at hone
          have HONE := Lib.hid hone
          have HST := Lib.hid (hst1 ho)
          have HLE := Lib.hid hle1
          have hz : (0 : Int) ≤ (runeW n : Int) := by omega
          clear hone hst1 ho hno hrest hn0 hrr hc hc42
          generalize valR (runeT n) = v at *
          generalize hk : runeW n = k at *
          generalize hnn : n.drop k = n2 at *
          have HNN := Lib.hid hnn
          have hn2 : n2.length < n.length := by rw [← hnn]; simp; omega
          have htk : n2.take (n.length - k) = n2 := List.take_of_length_le (by rw [← hnn]; simp)
          go_wp2_with (fail)
          refine (HPR.out _).mono ?_
          rintro e w1 ⟨rfl, hw1⟩
          have hB1 := HB.out.trans (hw1.mono HB.out.size)
          clear hw1
          go_wp2_with (fail)
          refine (HDEC.out _ hB1).mono ?_
          rintro e w2 ⟨rfl, hw2⟩
          have hB2 := hB1.trans (hw2.mono hB1.size)
          clear hw2 hB1
          go_wp2_with (fail)
          refine (HONE.out _ hB2).mono ?_
          rintro e w3 ⟨rfl, hw3⟩
          have hB3 := hB2.trans (hw3.mono hB2.size)
          clear hw3 hB2
          go_wp2_with (fail)
          refine wp_region_below (by kernel_rfl) (by kernel_rfl) ?_
          repeat (go_big_quiet_step (fail))
          refine wpQuiet_nil ?_
          intro W4 hW4
          have HB4 := Lib.hid (hB3.trans (hW4.mono hB3.size))
          clear hW4 hB3
          go_wp2_with (fail)
          go_roundw
          case rel => exact ⟨rest, n2, again, fr, star, rfl, rfl, rfl, rfl, rfl, HST, Lib.hid (fun h => Nat.le_trans HLE.out (HPA.out h)), HB4⟩
          case measure =>
            have := meas_one (P := p0.length) (N := n0.length) (ta := again.length) (tf := fr.length) (star := star) hn2
            simpa [strLenG, starOf, ByteArray.size] using this
        | false =>
          rw [ho] at hone
          have HONE := Lib.hid hone
          have hno := hno ho
          clear hone hst1 ho hrest hle1
          cases star with
          | false =>
            have HF := Lib.hid (show res = false by rw [← HRES.out]; exact HP.out.fail hn0 hno)
            clear hn0 hrr hwl r1 hc hno hc42
            generalize valR (runeT n) = v at *
            generalize runeW n = k at *
            go_wp2_with (fail)
            refine (HPR.out _).mono ?_
            rintro e w1 ⟨rfl, hw1⟩
            have hB1 := HB.out.trans (hw1.mono HB.out.size)
            clear hw1
            go_wp2_with (fail)
            refine (HDEC.out _ hB1).mono ?_
            rintro e w2 ⟨rfl, hw2⟩
            have hB2 := hB1.trans (hw2.mono hB1.size)
            clear hw2 hB1
            go_wp2_with (fail)
            refine (HONE.out _ hB2).mono ?_
            rintro e w3 ⟨rfl, hw3⟩
            have hB3 := hB2.trans (hw3.mono hB2.size)
            clear hw3 hB2
            go_wp2_with (fail)
            go_ret
            exact ⟨by rw [HF.out]; rfl, hB3⟩
          | true =>
            obtain ⟨f1, f2, hS2⟩ := HP.out.back hn0 (hno)
            have HS2 := Lib.hid hS2
            have hfd := fun W (hb : Below w.heap.size w W) => dec_any_valid fr f1 HP.out.vf W (HT.out W hb)
            have HFD := Lib.hid hfd
            have hfl := runeW_le' f1
            have hz2 : (0 : Int) ≤ (runeW fr : Int) := by omega
            clear hS2 hfd f1 hn0 hrr hwl r1 hc hno hc42
            generalize valR (runeT n) = v at *
            generalize runeW n = k at *
            generalize valR (runeT fr) = v2 at *
            generalize hk2 : runeW fr = k2 at *
            generalize hff : fr.drop k2 = fr2 at *
            have HFF := Lib.hid hff
            have hfr2 : fr2.length < fr.length := by rw [← hff]; simp; omega
            have htk2 : fr2.take (fr.length - k2) = fr2 := List.take_of_length_le (by rw [← hff]; simp)
            go_wp2_with (fail)
            refine (HPR.out _).mono ?_
            rintro e w1 ⟨rfl, hw1⟩
            have hB1 := HB.out.trans (hw1.mono HB.out.size)
            clear hw1
            go_wp2_with (fail)
            refine (HDEC.out _ hB1).mono ?_
            rintro e w2 ⟨rfl, hw2⟩
            have hB2 := hB1.trans (hw2.mono hB1.size)
            clear hw2 hB1
            go_wp2_with (fail)
            refine (HONE.out _ hB2).mono ?_
            rintro e w2b ⟨rfl, hw2b⟩
            have hB2b := hB2.trans (hw2b.mono hB2.size)
            clear hw2b hB2
            go_wp2_with (fail)
            refine (HFD.out _ hB2b).mono ?_
            rintro e w3 ⟨rfl, hw3⟩
            have HB3 := Lib.hid (hB2b.trans (hw3.mono hB2b.size))
            clear hw3 hB2b
            go_wp2_with (fail)
            go_roundw
            case rel => exact ⟨again, fr2, again, fr2, true, rfl, rfl, rfl, rfl, rfl, HS2, Lib.hid (fun _ => Nat.le_refl _), HB3⟩
            case measure =>
              have := meas_back (P := p0.length) (N := n0.length) (ta := again.length) (tn := n.length) (star := true) hfr2 (show fr2.length ≤ n0.length by have := HLF.out; omega)
              simpa [strLenG, starOf, ByteArray.size] using this
end Go.Proofs.YtgppfcaghjbjmaaGreatDoor
end

/- A map that the call has made, as a function from keys to elements. -/
section
namespace Go.Proofs.YtgppfcaghjbjmaaGreatDoor
open Go.RowKit Go.Maps Go.ChangeMaps

/-- Block b is a map of at most n entries that holds f. -/
def MapIs (P : Program) (k : TypeId) (w : World) (b n : Nat) (f : Value → Option Value) : Prop :=
  ∃ es clock, w.heap[b]? = some (.map es clock) ∧ (∀ e ∈ es.toList, ∃ l, keyOf P k e.key = some l) ∧ es.size ≤ n ∧
    (∀ (i j : Nat) (e e' : MapEntry), es.toList[i]? = some e → es.toList[j]? = some e' → e.key = e'.key → i = j) ∧ ∀ x v, f x = some v ↔ ∃ e ∈ es.toList, e.key = x ∧ e.val = v

section
variable {P : Program} {k e t : TypeId} {w w' : World} {b n : Nat} {f : Value → Option Value}
theorem MapIs.made (w : World) (P : Program) (k : TypeId) : MapIs P k (w.alloc (.map #[] 0)) w.heap.size 0 (fun _ => none) :=
  ⟨#[], 0, heap_alloc_new w _, by simp, by simp, by simp, by simp⟩
theorem MapIs.lt (h : MapIs P k w b n f) : b < w.heap.size := by
  obtain ⟨es, c, hb, _⟩ := h
  exact (Array.getElem?_eq_some_iff.1 hb).1
theorem MapIs.same (h : MapIs P k w b n f) (hb : w'.heap[b]? = w.heap[b]?) : MapIs P k w' b n f := by
  obtain ⟨es, c, h1, h2⟩ := h
  exact ⟨es, c, hb.trans h1, h2⟩
theorem MapIs.below (h : MapIs P k w b n f) (hb : Below w.heap.size w w') : MapIs P k w' b n f := h.same (hb.block _ h.lt)
theorem MapIs.grown (h : MapIs P k w b n f) {r : Option Nat} (hg : w.grownBy w' r) (hne : some b ≠ r) : MapIs P k w' b n f := h.same (hg.block _ h.lt hne)
theorem MapIs.mono (h : MapIs P k w b n f) {n' : Nat} (hn : n ≤ n') : MapIs P k w b n' f := by
  obtain ⟨es, c, h1, h2, h3, h4⟩ := h
  exact ⟨es, c, h1, h2, by omega, h4⟩

/-- 'm[k]', 'v, ok := m[k]' -/
theorem MapIs.look (h : MapIs P k w b n f) (K : Keyed P k) (ht : P.underlying t = some (.map k e)) {z : Value} (hz : (zeroValue e).run P w = .ok z w) {x : Value} {lx : Lit} (hx : keyOf P k x = some lx) (ok : Bool) :
    (Instr.lookup t (.map (some b)) x ok).run P w = .ok (if ok then .tuple #[(f x).getD z, .bool (f x).isSome] else (f x).getD z) w := by
  obtain ⟨es, clock, hb, hk, hn, hd, hf⟩ := h
  have hu := run_underlying ht w
  have hc := K.check w es.isEmpty hx
  have hobj : (getObj b).run P w = .ok (.map es clock) w := by simp [getObj, Sem.run, hb]
  rcases K.find w hx es.toList hk with ⟨hfind, hno⟩ | ⟨j, e0, hfind, hj, hkey⟩
  · have hfx : f x = none := by
      cases hv : f x with
      | none => rfl
      | some v => obtain ⟨e0, he0, h1, _⟩ := (hf x v).1 hv; exact absurd h1 (hno e0 he0)
    rw [hfx]
    unfold Instr.lookup
    simp only [Sem.run_bind, hu, Result.andThen, hobj, hc, hfind, Sem.run_pure, hz]
    cases ok <;> rfl
  · have hfx : f x = some e0.val := (hf x e0.val).2 ⟨e0, List.mem_of_getElem? hj, hkey, rfl⟩
    rw [hfx]
    unfold Instr.lookup
    simp only [Sem.run_bind, hu, Result.andThen, hobj, hc, hfind, Sem.run_pure]
    cases ok <;> rfl

/-- 'm[k] = v' -/
theorem MapIs.store (h : MapIs P k w b n f) (K : Keyed P k) (ht : P.underlying t = some (.map k e)) {x v : Value} {lx : Lit} (hx : keyOf P k x = some lx) (g : Value → Option Value) (hg : ∀ y, y ≠ x → g y = f y) (hgx : g x = some v) :
    ∃ o, (∀ w1 : World, w1.heap = w.heap → (Instr.mapUpdate t (.map (some b)) x v).run P w1 = .ok () { w1 with heap := w.heap.setIfInBounds b o }) ∧ ∀ w2 : World, w2.heap[b]? = some o → MapIs P k w2 b (n + 1) g := by
  obtain ⟨es, clock, hb, hk, hn, hd, hf⟩ := h
  have hlt := (Array.getElem?_eq_some_iff.1 hb).1
  have hu := fun w1 : World => run_underlying ht w1
  have hc := fun w1 : World => K.check w1 false hx
  have hobj : ∀ w1 : World, w1.heap = w.heap → (getObj b).run P w1 = .ok (.map es clock) w1 := fun w1 e => by simp [getObj, Sem.run, e, hb]
  have hset : ∀ (w1 : World), w1.heap = w.heap → ∀ o, (setObj b o).run P w1 = .ok () { w1 with heap := w.heap.setIfInBounds b o } := fun w1 e o => by simp [setObj, Sem.run, e, hb]
  rcases K.find w hx es.toList hk with ⟨hfind, hno⟩ | ⟨j, e0, hfind, hj, hkey⟩
  · refine ⟨_, fun w1 e => ?_, fun w2 h2 => ⟨es.push { key := x, val := v, born := clock }, clock + 1, h2, ?_, ?_, ?_, ?_⟩⟩
    · have hfind1 : (Instr.findKey k x es.toList).run P w1 = .ok none w1 := by
        rcases K.find w1 hx es.toList hk with ⟨h1, _⟩ | ⟨j, e0, _, hj, hkey⟩
        · exact h1
        · exact absurd hkey (hno e0 (List.mem_of_getElem? hj))
      unfold Instr.mapUpdate
      simp only [Sem.run_bind, hu, Result.andThen, hobj w1 e, hc, hfind1, hset w1 e]
    · intro e1 he1
      rw [Array.toList_push, List.mem_append, List.mem_singleton] at he1
      rcases he1 with he1 | rfl
      · exact hk e1 he1
      · exact ⟨lx, hx⟩
    · simp; omega
    · intro i j e1 e2 h1 h2 he
      rw [Array.toList_push] at h1 h2
      rw [List.getElem?_append] at h1 h2
      split at h1 <;> split at h2
      · exact hd i j e1 e2 h1 h2 he
      · rename_i hi hj'
        have : e2 = { key := x, val := v, born := clock } := by
          rcases hq : j - es.toList.length with _ | q
          · rw [hq] at h2; simpa using h2.symm
          · rw [hq] at h2; simp at h2
        subst this
        exact absurd he (hno e1 (List.mem_of_getElem? h1))
      · rename_i hi hj'
        have : e1 = { key := x, val := v, born := clock } := by
          rcases hq : i - es.toList.length with _ | q
          · rw [hq] at h1; simpa using h1.symm
          · rw [hq] at h1; simp at h1
        subst this
        exact absurd he.symm (hno e2 (List.mem_of_getElem? h2))
      · rename_i hi hj'
        have a1 : i - es.toList.length = 0 := by
          rcases hq : i - es.toList.length with _ | q
          · rfl
          · rw [hq] at h1; simp at h1
        have a2 : j - es.toList.length = 0 := by
          rcases hq : j - es.toList.length with _ | q
          · rfl
          · rw [hq] at h2; simp at h2
        omega
    · intro y u
      rw [Array.toList_push]
      by_cases hy : y = x
      · subst hy
        rw [hgx]
        constructor
        · intro h; injection h with h; subst h; exact ⟨_, List.mem_append_right _ (List.mem_singleton.2 rfl), rfl, rfl⟩
        · rintro ⟨e1, he1, h1, h2⟩
          rw [List.mem_append, List.mem_singleton] at he1
          rcases he1 with he1 | rfl
          · exact absurd h1 (hno e1 he1)
          · rw [← h2]
      · rw [hg y hy, hf y u]
        constructor
        · rintro ⟨e1, he1, h1⟩; exact ⟨e1, List.mem_append_left _ he1, h1⟩
        · rintro ⟨e1, he1, h1, h2⟩
          rw [List.mem_append, List.mem_singleton] at he1
          rcases he1 with he1 | rfl
          · exact ⟨e1, he1, h1, h2⟩
          · exact absurd h1.symm hy
  · have hjs : j < es.toList.length := (List.getElem?_eq_some_iff.1 hj).1
    have hej : es[j]? = some e0 := by rw [← Array.getElem?_toList]; exact hj
    have hstay := fun w1 : World => K.stays w1 hx
    have hml : (es.modify j fun e => { e with key := x, val := v }).toList = es.toList.modify j (fun e => { e with key := x, val := v }) := by simp
    have hgm : ∀ i (e1 : MapEntry), (es.toList.modify j (fun e => { e with key := x, val := v }))[i]? = some e1 → ∃ e2, es.toList[i]? = some e2 ∧ e1.key = e2.key ∧ (if i = j then e1.val = v else e1 = e2) := by
      intro i e1 h1
      rw [List.getElem?_modify] at h1
      cases h2 : es.toList[i]? with
      | none => rw [h2] at h1; simp at h1
      | some e2 =>
        rw [h2] at h1
        replace h1 : (if j = i then fun e : MapEntry => { e with key := x, val := v } else id) e2 = e1 := by
          by_cases q : j = i
          · subst q; simpa using h1
          · rw [if_neg q]; simpa [q] using h1
        refine ⟨e2, rfl, ?_⟩
        by_cases hij : j = i
        · subst hij
          rw [hj] at h2
          injection h2 with h2
          subst h2
          rw [if_pos rfl] at h1
          subst h1
          simp [hkey]
        · rw [if_neg hij] at h1
          simp only [id_eq] at h1
          subst h1
          simp [Ne.symm hij]
    refine ⟨_, fun w1 e => ?_, fun w2 h2 => ⟨es.modify j fun e => { e with key := x, val := v }, clock, h2, ?_, ?_, ?_, ?_⟩⟩
    · have hfind1 : (Instr.findKey k x es.toList).run P w1 = .ok (some (j, e0.val)) w1 := by
        rcases K.find w1 hx es.toList hk with ⟨_, h1⟩ | ⟨j1, e1, h1, hj1, hkey1⟩
        · exact absurd hkey (h1 e0 (List.mem_of_getElem? hj))
        · obtain rfl := hd j1 j e1 e0 hj1 hj (hkey1.trans hkey.symm)
          rw [hj] at hj1
          injection hj1 with hj1
          subst hj1
          exact h1
      unfold Instr.mapUpdate
      simp only [Sem.run_bind, hu, Result.andThen, hobj w1 e, hc, hfind1]
      rw [hej]
      simp only [Option.map_some, Option.getD_some, hkey, hstay, hset w1 e]
    · intro e1 he1
      rw [hml] at he1
      obtain ⟨i, hi⟩ := List.mem_iff_getElem?.1 he1
      obtain ⟨e2, h2, h3, _⟩ := hgm i e1 hi
      rw [h3]; exact hk e2 (List.mem_of_getElem? h2)
    · simp; omega
    · intro i j' e1 e2 h1 h2 he
      rw [hml] at h1 h2
      obtain ⟨e1', q1, q2, _⟩ := hgm i e1 h1
      obtain ⟨e2', r1, r2, _⟩ := hgm j' e2 h2
      exact hd i j' e1' e2' q1 r1 (by rw [← q2, ← r2]; exact he)
    · intro y u
      rw [hml]
      by_cases hy : y = x
      · subst hy
        rw [hgx]
        constructor
        · intro h
          injection h with h
          subst h
          refine ⟨{ e0 with key := y, val := v }, List.mem_iff_getElem?.2 ⟨j, ?_⟩, rfl, rfl⟩
          rw [List.getElem?_modify, hj]; simp
        · rintro ⟨e1, he1, h1, h2⟩
          obtain ⟨i, hi⟩ := List.mem_iff_getElem?.1 he1
          obtain ⟨e2, q1, q2, q3⟩ := hgm i e1 hi
          have hij := hd i j e2 e0 q1 hj (by rw [← q2, h1, hkey])
          rw [if_pos hij] at q3
          rw [← h2, q3]
      · rw [hg y hy, hf y u]
        constructor
        · rintro ⟨e1, he1, h1, h2⟩
          obtain ⟨i, hi⟩ := List.mem_iff_getElem?.1 he1
          have hij : j ≠ i := fun e => by
            subst e
            rw [hj] at hi
            injection hi with hi
            subst hi
            exact hy (h1.symm.trans hkey)
          refine ⟨e1, List.mem_iff_getElem?.2 ⟨i, ?_⟩, h1, h2⟩
          rw [List.getElem?_modify, hi]; simp [hij]
        · rintro ⟨e1, he1, h1, h2⟩
          obtain ⟨i, hi⟩ := List.mem_iff_getElem?.1 he1
          obtain ⟨e2, q1, q2, q3⟩ := hgm i e1 hi
          have hij : i ≠ j := fun e => by
            subst e
            rw [hj] at q1
            injection q1 with q1
            subst q1
            exact hy (by rw [← h1, q2, hkey])
          rw [if_neg hij] at q3
          subst q3
          exact ⟨e1, List.mem_of_getElem? q1, h1, h2⟩
end
end Go.Proofs.YtgppfcaghjbjmaaGreatDoor
end
