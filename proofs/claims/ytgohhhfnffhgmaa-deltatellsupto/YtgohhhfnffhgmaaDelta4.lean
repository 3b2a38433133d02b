/- The first block that matches: the document's. -/
import Derived.Test.YtgohhhfnffhgmaaDelta3
import Derived.Test.YtgohhhfnffhgmaaPlainDelta2
namespace Go.Proofs.Ytgohhhfnffhgmaa
open Go.RowKit Plain

/-- a list of blocks among what the call may read -/
def BlksAt (w : World) (base : Nat) (v : Value) (l : List Blk) : Prop := w.ownsRow base 33 3 v l.length (rowsE blkV l)
theorem BlksAt.below {w w' : World} {base : Nat} {v : Value} {l : List Blk} (h : BlksAt w base v l) (hb : Below w.heap.size w w') : BlksAt w' base v l := own_below h hb
theorem BlksAt.slice {w : World} {base : Nat} {v : Value} {l : List Blk} (h : BlksAt w base v l) : ∃ A c, v = .slice A l.length c := by
  obtain ⟨A, c, e, -⟩ := IsSlice.of_own h
  exact ⟨A, c, e⟩
theorem BlksAt.at_ {w : World} {base : Nat} {A : Option Addr} {c : Nat} {l : List Blk} (h : BlksAt w base (.slice A l.length c) l) {k : Nat} (hk : k < l.length) :
    ∃ g, A = some ⟨g, 0, none⟩ ∧ base ≤ g ∧ g < w.heap.size ∧ w.cell? ⟨g, k * 3, none⟩ = some (.int .u32 (l[k].w : Nat)) ∧ w.cell? ⟨g, k * 3 + 1, none⟩ = some (.string ⟨l[k].s.toArray⟩) ∧ w.cell? ⟨g, k * 3 + 2, none⟩ = some (.int .i64 l[k].n) := by
  obtain ⟨g, c', e, h1, h2⟩ := rowsE_some h (by omega)
  injection e with e1 e2 e3
  subst e1 e3
  refine ⟨g, rfl, h1, h2, ?_, ?_, ?_⟩
  · exact rowsE_cell blkV_length h hk (i := 0) (by omega)
  · exact rowsE_cell blkV_length h hk (i := 1) (by omega)
  · exact rowsE_cell blkV_length h hk (i := 2) (by omega)
theorem sha_ne (s : List UInt8) : (sha s).isEmpty = false := by
  have := sha_length s
  cases h : sha s with
  | nil => rw [h] at this; simp at this
  | cons => rfl

set_option maxRecDepth 100000 in
set_option maxHeartbeats 2000000 in
theorem rmatch_any (base : Nat) (v : Value) (l : List Blk) (s : List UInt8) (w : World) (h : BlksAt w base v l) (hl : l.length ≤ 4294967296) (hs : s.length ≤ 65536) (hb32 : ∀ b ∈ l, b.w < 4294967296) :
    Calls Try.prog 25 #[v, .string ⟨s.toArray⟩] w (Ret w (.int .i64 (matchI l s))) := by
  obtain ⟨A, c, rfl⟩ := h.slice
  have H := Lib.hid h
  clear h
  go_enter Try.func25, Try.ntmps25
  go_wp2_with (fail)
  refine (Weak_ref s _ (by omega)).mono ?_
  rintro e w1 ⟨rfl, hb1⟩
  have HB1 := Lib.hid hb1
  clear hb1
  go_wp2_with (fail)
  go_loopw [6, 7] (fun t6 t7 W => ∃ (k : Nat) (x : List UInt8), k ≤ l.length ∧ t7 = .int .i64 (k : Nat) ∧ t6 = .string ⟨x.toArray⟩ ∧ (x = [] ∨ x = sha s) ∧ Hid (NoneOf l s k) ∧ Hid (Below w.heap.size w W)) (fun _ t7 _ => l.length - (intOf t7).toNat)
  case atStart => exact ⟨0, [], by omega, rfl, rfl, .inl rfl, Lib.hid (NoneOf.zero _ _), HB1⟩
  case round =>
    clear HB1
    obtain ⟨k, x, hk, rfl, rfl, hx, HN, HB⟩ := hrel
    have i1 : (0 : Int) ≤ (k : Int) := by omega
    by_cases hlt : k < l.length
    · have hW := H.out.below HB.out
      obtain ⟨g, rfl, -, -, c0, c1, c2⟩ := hW.at_ hlt
      have i2 : (k : Int) < (l.length : Int) := by omega
      have HNX := Lib.hid (fun hf => HN.out.next hlt hf)
      have HFD := Lib.hid (fun hf => HN.out.found hlt hf)
      have hbw := hb32 _ (List.getElem_mem hlt)
      have hwl := weak_lt s
      clear hW
      generalize l[k] = b at *
      obtain ⟨bw, bs, bn⟩ := b
      simp only at c0 c1 c2 hbw
      by_cases q1 : bn = s.length
      case neg =>
        have b1 : (bn == (s.length : Int)) = false := by rw [beq_eq_false_iff_ne]; exact q1
        have HNN := Lib.hid (HNX.out (fits_n q1))
        go_wp2_with (fail)
        all_goals exact ⟨⟨k + 1, x, by omega, by go_num, rfl, hx, HNN, HB⟩, by simp [intOf]; omega⟩
      case pos =>
        subst q1
        by_cases q2 : bw = weak s
        case neg =>
          have b2 : ((bw : Int) == ((weak s : Nat) : Int)) = false := by rw [beq_eq_false_iff_ne]; omega
          have HNN := Lib.hid (HNX.out (fits_w' q2))
          go_wp2_with (fail)
          all_goals exact ⟨⟨k + 1, x, by omega, by go_num, rfl, hx, HNN, HB⟩, by simp [intOf]; omega⟩
        case pos =>
          have HF := Lib.hid (fits_s (s := s) (b := ⟨bw, bs, s.length⟩) rfl q2)
          subst q2
          have HSE := Lib.hid (sha_ne s)
          have hsl := sha_length s
          have hsum := fun W => RefSum_any s W (by omega)
          by_cases q3 : bs = sha s
          case pos =>
            have HFIN := Lib.hid (matchI_some (HFD.out (HF.out.trans (decide_eq_true q3))))
            clear HF
            subst q3
            generalize sha s = z at *
            rcases hx with rfl | rfl
            · go_wp2_with (fail)
              refine (hsum _).mono ?_
              rintro e w2 ⟨rfl, hb2⟩
              have c1' := (hb2.cell (World.block_lt_of_cell? _ _ c1)).trans c1
              go_wp2_with (fail)
              go_ret
              exact ⟨by rw [HFIN.out]; rfl, HB.out.trans (hb2.mono HB.out.size)⟩
            · have b4 := HSE.out
              go_wp2_with (fail)
              go_ret
              exact ⟨by rw [HFIN.out]; rfl, HB.out⟩
          case neg =>
            have b3 : (bs == sha s) = false := by rw [beq_eq_false_iff_ne]; exact q3
            have HNN := Lib.hid (HNX.out (HF.out.trans (decide_eq_false q3)))
            clear HF
            generalize sha s = z at *
            rcases hx with rfl | rfl
            · go_wp2_with (fail)
              refine (hsum _).mono ?_
              rintro e w2 ⟨rfl, hb2⟩
              have c1' := (hb2.cell (World.block_lt_of_cell? _ _ c1)).trans c1
              go_wp2_with (fail)
              all_goals exact ⟨⟨k + 1, z, by omega, by go_num, rfl, .inr rfl, HNN, Lib.hid (HB.out.trans (hb2.mono HB.out.size))⟩, by simp [intOf]; omega⟩
            · have b4 := HSE.out
              go_wp2_with (fail)
              all_goals exact ⟨⟨k + 1, x, by omega, by go_num, rfl, .inr rfl, HNN, HB⟩, by simp [intOf]; omega⟩
    · obtain rfl : k = l.length := by omega
      have HFIN := Lib.hid (matchI_none HN.out.all)
      go_wp2_with (fail)
      go_ret
      exact ⟨by rw [HFIN.out]; rfl, HB.out⟩
end Go.Proofs.Ytgohhhfnffhgmaa
