/- The first block that matches: delta's, by the weak sums' map. -/
import Derived.Test.YtgohhhfnffhgmaaDelta4
import Derived.Test.YtgohhhfnffhgmaaMaps
import Derived.Deep.RegionHeld3
namespace Go.Proofs.Ytgohhhfnffhgmaa
open Go.RowKit Plain Go.Maps Go.ChangeMaps

def natsV (l : List Nat) : List Value := l.map fun i => .int .i64 (i : Nat)
theorem natsV_length (l : List Nat) : (natsV l).length = l.length := by simp [natsV]
theorem natsV_append (l m : List Nat) : natsV (l ++ m) = natsV l ++ natsV m := by simp [natsV]
def slotOf (f : Value → Option Value) (x : Nat) : Value := (f (.int .u32 (x : Nat))).getD (.slice none 0 0)
/-- the map of the weak sums: of the first n blocks -/
structure IdxAt (base mb : Nat) (l : List Blk) (n : Nat) (f : Value → Option Value) (w : World) : Prop where
  map : MapIs Try.prog 31 w mb n f
  rows : ∀ x : Nat, x < 4294967296 → w.ownsRow base 3 1 (slotOf f x) (idxs l x n).length (natsV (idxs l x n))
  apart : ∀ x y : Nat, x < 4294967296 → y < 4294967296 → x ≠ y → Apart (slotOf f x) (slotOf f y)
  le : mb < base
theorem own_keep {w w' : World} {base : Nat} {e : TypeId} {size n : Nat} {v : Value} {xs : List Value} (h : w.ownsRow base e size v n xs) (hb : ∀ b, base ≤ b → b < w.heap.size → w'.heap[b]? = w.heap[b]?) : w'.ownsRow base e size v n xs := by
  refine ⟨h.1, ?_⟩
  rcases h.2 with h2 | ⟨g, cap, cur, rfl, hbg, hg, hr⟩
  · exact .inl h2
  · refine .inr ⟨g, cap, cur, rfl, hbg, ?_, hr⟩
    rw [hb g hbg (Array.getElem?_eq_some_iff.1 hg).1]
    exact hg
theorem IdxAt.keep {base mb : Nat} {l : List Blk} {n : Nat} {f : Value → Option Value} {w w' : World} (h : IdxAt base mb l n f w) (hm : w'.heap[mb]? = w.heap[mb]?) (hb : ∀ b, base ≤ b → b < w.heap.size → w'.heap[b]? = w.heap[b]?) : IdxAt base mb l n f w' :=
  ⟨h.map.same hm, fun x hx => own_keep (h.rows x hx) hb, h.apart, h.le⟩
theorem IdxAt.gb {base mb g : Nat} {l : List Blk} {n : Nat} {f : Value → Option Value} {w w' : World} (h : IdxAt base mb l n f w) (hg : w.grownBy w' (some g)) (h1 : g < base) (h2 : g ≠ mb) : IdxAt base mb l n f w' :=
  h.keep (hg.block mb h.map.lt (fun e => h2 (by injection e with e; exact e.symm))) (fun b hb hlt => hg.block b hlt (fun e => by injection e with e; omega))
theorem key_u32 (x : Nat) (h : x < 4294967296) : keyOf Try.prog 31 (.int .u32 (x : Nat)) = some (.int .u32 (x : Nat)) :=
  keyOf_int_mk Try.underlying31 (by simp [Lit.wf, IntKind.min, IntKind.max, IntKind.signed, IntKind.bits]; omega)
theorem zero_ints (w : World) : (zeroValue 63).run Try.prog w = .ok (.slice none 0 0) w := by kernel_rfl
theorem gb_of_drew {w w' : World} {r : Option Nat} (h : w.drew.grownBy w' r) : w.grownBy w' r := ⟨h.os, h.tape, h.output, h.size, h.block⟩
theorem own_ne {w w' : World} {base : Nat} {e : TypeId} {size n g : Nat} {v : Value} {xs : List Value} (h : w.ownsRow base e size v n xs) (hg : w.grownBy w' (some g)) (hv : v.ownBlock ≠ some g) : w'.ownsRow base e size v n xs :=
  h.kept hg (by
    cases hv' : v.ownBlock with
    | none => exact .inl rfl
    | some k => exact .inr (fun e => by rw [hv'] at hv; exact hv e))
theorem IdxAt.look {base mb : Nat} {l : List Blk} {n : Nat} {f : Value → Option Value} {w : World} (h : IdxAt base mb l n f w) {x : Nat} (hx : x < 4294967296) :
    (Instr.lookup 60 (.map (some mb)) (.int .u32 (x : Nat)) false).run Try.prog w = .ok (slotOf f x) w :=
  h.map.look (int_keyed Try.underlying31) Try.underlying60 (zero_ints w) (key_u32 x hx) false

theorem gb_trans {a w w' : World} {g : Nat} (h : a.grownBy w (some g)) (k : w.grownBy w' (some g)) : a.grownBy w' (some g) :=
  ⟨k.os.trans h.os, k.tape.trans h.tape, k.output.trans h.output, Nat.le_trans h.size k.size, fun i hi hn => (k.block i (Nat.lt_of_lt_of_le hi h.size) hn).trans (h.block i hi hn)⟩
theorem MkAt.cells {g : Nat} {data : List UInt8} {at' n : Nat} {mv lv : Value} {w : World} (h : MkAt g data at' n mv lv w) :
    w.cell? ⟨g, 0, none⟩ = some (.string ⟨data.toArray⟩) ∧ w.cell? ⟨g, 1, none⟩ = some (.int .i64 (at' : Nat)) ∧ w.cell? ⟨g, 2, none⟩ = some (.int .i64 (n : Nat)) ∧ w.cell? ⟨g, 5, none⟩ = some mv ∧ w.cell? ⟨g, 6, none⟩ = some lv := by
  obtain ⟨wk, sm, h1, -⟩ := h
  exact ⟨cell_of_row w g 0 _ _ _ h1, cell_of_row w g 1 _ _ _ h1, cell_of_row w g 2 _ _ _ h1, cell_of_row w g 5 _ _ _ h1, cell_of_row w g 6 _ _ _ h1⟩

set_option maxRecDepth 100000 in
set_option maxHeartbeats 4000000 in
theorem dmatch_any (g mb base base' : Nat) (lv : Value) (l : List Blk) (f : Value → Option Value) (data : List UInt8) (at' n : Nat) (w : World) (hM : MkAt g data at' n (.map (some mb)) lv w) (hL : BlksAt w base' lv l) (hgL : lv.ownBlock ≠ some g) (hI : IdxAt base mb l l.length f w) (hg : g < base) (hgm : g ≠ mb)
    (hle : at' + n ≤ data.length) (hd : data.length ≤ 1048576) (hn : n ≤ 65536) (hl : l.length ≤ 4294967296) (hb32 : ∀ b ∈ l, b.w < 4294967296) :
    Calls Try.prog 23 #[.pointer (some ⟨g, 0, none⟩)] w fun e w' => e = .returned (.int .i64 (matchI l (piece data at' n))) ∧ w.grownBy w' (some g) ∧ MkAt g data at' n (.map (some mb)) lv w' := by
  have s3 : w.drew.cell? ⟨g, 5, none⟩ = some (.map (some mb)) := hM.cells.2.2.2.1
  have hpl := piece_length hle
  have hsum := wsum_any g data at' n (.map (some mb)) lv w.drew (hM.same rfl) hle (by omega)
  have hlookw : ∀ w1 : World, w.drew.grownBy w1 (some g) → (Instr.lookup 60 (.map (some mb)) (.int .u32 (weak (piece data at' n) : Nat)) false).run Try.prog w1 = .ok (slotOf f (weak (piece data at' n))) w1 :=
    fun w1 h1 => (hI.gb (gb_of_drew h1) hg hgm).look (weak_lt _)
  have hrow := hI.rows _ (weak_lt (piece data at' n))
  obtain ⟨A, c, hsl, hc1, hc2, hR⟩ := IsSlice.of_own hrow
  rw [hsl] at hlookw
  have HI := Lib.hid hI
  have HL := Lib.hid hL
  have HM := Lib.hid hM
  have HR := Lib.hid hR
  have HROW := Lib.hid hrow
  have HSL := Lib.hid hsl
  have HLK := Lib.hid hlookw
  have hil := idxs_length l (weak (piece data at' n)) l.length
  clear hI hL hM hR hrow hsl hlookw
  go_enter Try.func23, Try.ntmps23
  go_wp2_with (fail)
  go_region_held3 (fun W => W.cell? ⟨g, 5, none⟩ = some (.map (some mb))) (first | exact s3 | exact s3b) (first
    | (go_at_call 33; refine hsum.mono ?_; rintro e w1 ⟨rfl, h1, k1⟩; have s3b : w1.cell? ⟨g, 5, none⟩ = some (.map (some mb)) := k1.cells.2.2.2.1; have hlook := HLK.out w1 h1))
  have HG1 := Lib.hid (gb_of_drew h1)
  have HM1 := Lib.hid k1
  clear hsum h1 s3 s3b hlook k1
  generalize hp : piece data at' n = p at *
  generalize hX : idxs l (weak p) l.length = X at *
  have HP := Lib.hid hp
  have HX := Lib.hid hX
  clear hp
  go_wp2_with (fail)
  go_loopw [3, 5, 16] (fun t3 _ t16 W => ∃ (k : Nat) (x : List UInt8), k ≤ X.length ∧ t16 = .int .i64 (k : Nat) ∧ t3 = .string ⟨x.toArray⟩ ∧ (x = [] ∨ x = sha p) ∧ Hid (∀ j (h : j < X.length) b, j < k → l[X[j]]? = some b → fits p b = false) ∧ Hid (w.grownBy W (some g)) ∧ Hid (MkAt g data at' n (.map (some mb)) lv W)) (fun _ _ t16 _ => X.length - (intOf t16).toNat)
  case atStart => exact ⟨0, [], by omega, rfl, rfl, .inl rfl, Lib.hid (fun j h b hj => by omega), HG1, HM1⟩
  case round =>
    clear HG1 HM1
    obtain ⟨k, x, hk, rfl, rfl, hx, HN, HG, HM2⟩ := hrel
    have i1 : (0 : Int) ≤ (k : Int) := by omega
    by_cases hlt : k < X.length
    · have hIW := (HI.out.gb HG.out hg hgm).rows _ (weak_lt p)
      rw [HX.out, HSL.out] at hIW
      have hRW := Reads.of_own hIW
      obtain ⟨ad, u, rfl, hu, hcell⟩ := hRW.at_ hlt
      have hu' : u = .int .i64 (X[k] : Nat) := by
        unfold natsV at hu
        rw [List.getElem?_map, List.getElem?_eq_getElem hlt] at hu
        injection hu with hu; exact hu.symm
      subst hu'
      have hmem : X[k] < l.length ∧ l[X[k]]?.map (·.w) = some (weak p) := idxs_mem.1 (show X[k] ∈ idxs l (weak p) l.length by rw [hX]; exact List.getElem_mem hlt)
      obtain ⟨hil2, hiw⟩ := hmem
      rw [List.getElem?_eq_getElem hil2] at hiw
      simp only [Option.map_some, Option.some.injEq] at hiw
      have hfd : fits p l[X[k]] = true → matchP l p = some X[k] := by
        intro hf
        have hNo := HN.out
        clear HN HX HROW HSL hu hcell hRW hIW HR HLK HI
        subst hX
        exact match_found hlt hil2 hf (fun j h b hb => hNo j (by omega) b h hb)
      have hnx : fits p l[X[k]] = false → ∀ j (h : j < X.length) b, j < k + 1 → l[X[j]]? = some b → fits p b = false := by
        intro hf j h b hj hb
        by_cases e : j = k
        · subst e
          rw [List.getElem?_eq_getElem hil2] at hb
          injection hb with hb
          rw [← hb]; exact hf
        · exact HN.out j h b (by omega) hb
      have hLW : BlksAt wr base' lv l := own_ne HL.out HG.out hgL
      obtain ⟨AL, cL, hlv⟩ := hLW.slice
      have HLW := Lib.hid hLW
      rw [hlv] at hLW
      obtain ⟨gl, rfl, -, -, d0, d1, d2⟩ := hLW.at_ hil2
      obtain ⟨m0, m1, m2, m5, m6⟩ := HM2.out.cells
      rw [hlv] at m6
      have HLV := Lib.hid hlv
      have HFD := Lib.hid hfd
      have HNX := Lib.hid hnx
      have hbw := hb32 _ (List.getElem_mem hil2)
      have i2 : (k : Int) < (X.length : Int) := by omega
      clear hLW hlv hfd hnx hRW hIW hu HN d0
      generalize l[X[k]] = b at *
      generalize hi0 : X[k] = i at *
      have HI0 := Lib.hid hi0
      clear hi0
      obtain ⟨bw, bs, bn⟩ := b
      simp only at d1 d2 hiw hbw
      have j1 : (0 : Int) ≤ (i : Int) := by omega
      have j2 : (i : Int) < (l.length : Int) := by omega
      by_cases q1 : bn = n
      case neg =>
        have b1 : (bn != (n : Int)) = true := by rw [bne_iff_ne]; exact q1
        have HNN := Lib.hid (HNX.out (fits_n (by rw [hpl]; exact q1)))
        go_wp2_with (fail)
        go_quiet (fail)
        go_wp2_with (fail)
        all_goals exact ⟨⟨k + 1, x, by omega, by go_num, rfl, hx, HNN, Lib.hid (gb_drewN HG.out _), Lib.hid (HM2.out.same rfl)⟩, by simp [intOf]; omega⟩
      case pos =>
        subst q1
        have HF := Lib.hid (fits_s (s := p) (b := ⟨bw, bs, n⟩) (by rw [hpl]) hiw)
        have HSE := Lib.hid (sha_ne p)
        have hsl := sha_length p
        have hsum := fun W => Sum_any p W (by omega)
        have htext := wtext_any g data at' n
        rw [HP.out] at htext
        have b0 : ((n : Int) != (n : Int)) = false := by simp
        by_cases q3 : bs = sha p
        case pos =>
          have HFIN := Lib.hid (matchI_some (HFD.out (HF.out.trans (decide_eq_true q3))))
          clear HF
          subst q3
          generalize sha p = z at *
          rcases hx with rfl | rfl
          · go_wp2_with (fail)
            go_quiet (fail)
            have HM3 := Lib.hid (HM2.out.same (w' := wr.drewN nq) rfl)
            have HG3 := Lib.hid (gb_drewN HG.out nq)
            have d1x : (wr.drewN nq).cell? ⟨gl, i * 3 + 1, none⟩ = _ := d1
            generalize wr.drewN nq = W3 at *
            have ht := htext W3 HM3.out.cells.1 HM3.out.cells.2.1 HM3.out.cells.2.2.1 hle (by omega)
            go_wp2_with (fail)
            refine ht.mono ?_
            rintro e w4 ⟨rfl, hb4⟩
            go_wp2_with (fail)
            refine (hsum _).mono ?_
            rintro e w5 ⟨rfl, hb5⟩
            have hB := hb4.trans (hb5.mono hb4.size)
            have HM5 := Lib.hid (HM3.out.same (w' := w5) (hB.block g HM3.out.lt))
            have HG5 := Lib.hid (gb_below HG3.out hB)
            have d1' := (hB.cell (World.block_lt_of_cell? _ _ d1x)).trans d1x
            have m6' := HM5.out.cells.2.2.2.2
            rw [HLV.out] at m6'
            clear hB hb4 hb5 ht d1 d1x m0 m1 m2 m5 m6
            go_wp2_with (fail)
            go_ret
            exact ⟨by rw [HP.out, HFIN.out]; rfl, HG5.out, HM5.out⟩
          · have b4 := HSE.out
            go_wp2_with (fail)
            go_quiet (fail)
            go_wp2_with (fail)
            go_ret
            exact ⟨by rw [HP.out, HFIN.out]; rfl, gb_drewN HG.out _, HM2.out.same rfl⟩
        case neg =>
          have b3 : (bs == sha p) = false := by rw [beq_eq_false_iff_ne]; exact q3
          have HNN := Lib.hid (HNX.out (HF.out.trans (decide_eq_false q3)))
          clear HF
          generalize sha p = z at *
          rcases hx with rfl | rfl
          · go_wp2_with (fail)
            go_quiet (fail)
            have HM3 := Lib.hid (HM2.out.same (w' := wr.drewN nq) rfl)
            have HG3 := Lib.hid (gb_drewN HG.out nq)
            have d1x : (wr.drewN nq).cell? ⟨gl, i * 3 + 1, none⟩ = _ := d1
            generalize wr.drewN nq = W3 at *
            have ht := htext W3 HM3.out.cells.1 HM3.out.cells.2.1 HM3.out.cells.2.2.1 hle (by omega)
            go_wp2_with (fail)
            refine ht.mono ?_
            rintro e w4 ⟨rfl, hb4⟩
            go_wp2_with (fail)
            refine (hsum _).mono ?_
            rintro e w5 ⟨rfl, hb5⟩
            have hB := hb4.trans (hb5.mono hb4.size)
            have HM5 := Lib.hid (HM3.out.same (w' := w5) (hB.block g HM3.out.lt))
            have HG5 := Lib.hid (gb_below HG3.out hB)
            have d1' := (hB.cell (World.block_lt_of_cell? _ _ d1x)).trans d1x
            have m6' := HM5.out.cells.2.2.2.2
            rw [HLV.out] at m6'
            clear hB hb4 hb5 ht d1 d1x m0 m1 m2 m5 m6
            go_wp2_with (fail)
            all_goals exact ⟨⟨k + 1, z, by omega, by go_num, rfl, .inr rfl, HNN, HG5, HM5⟩, by simp [intOf]; omega⟩
          · have b4 := HSE.out
            go_wp2_with (fail)
            go_quiet (fail)
            go_wp2_with (fail)
            all_goals exact ⟨⟨k + 1, x, by omega, by go_num, rfl, .inr rfl, HNN, Lib.hid (gb_drewN HG.out _), Lib.hid (HM2.out.same rfl)⟩, by simp [intOf]; omega⟩
    · obtain rfl : k = X.length := by omega
      have HFIN := Lib.hid (show matchI l p = -1 from matchI_none (by
        have hNo := HN.out
        clear HN HX HROW HSL HR HLK HI
        subst hX
        exact match_none (fun j h b hb => hNo j h b h hb)))
      go_wp2_with (fail)
      go_ret
      exact ⟨by rw [HP.out, HFIN.out]; rfl, HG.out, HM2.out⟩
end Go.Proofs.Ytgohhhfnffhgmaa
