/- Texts joined: Arch7, RuneRef, NameRef, NameRefB, TextsSame. -/
import Derived.Test.YtjajoiahgfafgaaGreatDoorBArchBares12
import Derived.Lib.LazyBuf
import Derived.Test.YtjajoiahgfafgaaGreatDoorBCodeBaseC1
import Derived.Test.YtjajoiahgfafgaaGreatDoorBArchBares5
import Derived.IntWalk
import Derived.Test.YtjajoiahgfafgaaGreatDoorBArchBares6
import Derived.Deep.QuietTactic
import Derived.BigQuiet
set_option linter.unusedSimpArgs false
set_option linter.unusedVariables false

/- arch.Bare. -/
section
set_option linter.unusedVariables false
namespace Go.Proofs.YtjajoiahgfafgaaGreatDoor
open Go.RowKit Plain

theorem rows_readsA {α : Type} {enc : α → List Value} {m : Nat} (h0m : 0 < m) (hm : ∀ x, (enc x).length = m) {w : World} {A : Option Addr} {l : List α} (h : IsRows w m A (l.map enc)) : Reads w m A l.length (rowsE enc l) := by
  refine ⟨rowsE_length hm l, fun h0 => ?_⟩
  obtain ⟨ad, hA, -⟩ := h 0 (by simpa using h0)
  subst hA
  refine ⟨ad, rfl, fun j u hu => ?_⟩
  have hj : j < (rowsE enc l).length := (List.getElem?_eq_some_iff.1 hu).1
  rw [rowsE_length hm] at hj
  have hk : j / m < l.length := Nat.div_lt_of_lt_mul (by rw [Nat.mul_comm]; exact hj)
  have hi : j % m < m := Nat.mod_lt _ h0m
  have e : j = j / m * m + j % m := by have := Nat.div_add_mod j m; rw [Nat.mul_comm] at this; omega
  obtain ⟨ad', ha, hc⟩ := h (j / m) (by simpa using hk)
  injection ha with ha
  subst ha
  have e1 : (l.map enc)[j / m]'(by simpa using hk) = enc l[j / m] := by simp
  rw [e1] at hc
  have h2 := rowsE_get hm l (j / m) hk (j % m) hi
  rw [← e, hu] at h2
  have := hc (j % m) u h2.symm
  rwa [← e] at this
theorem empty_ownA (w : World) (t : TypeId) (size : Nat) : (w.alloc (.cells #[] t)).ownsRow w.heap.size t size (.slice (some ⟨w.heap.size, 0, none⟩) 0 0) 0 [] :=
  ⟨by simp, .inr ⟨w.heap.size, 0, #[], rfl, Nat.le_refl _, heap_alloc_new w _, Nat.le_refl _, by unfold maxLen; omega, by simp, by simp⟩⟩

set_option maxHeartbeats 1000000 in
set_option maxRecDepth 100000 in
theorem clone_any (t : List Nd) (A : Option Addr) (c : Nat) (w : World) (hR : IsRows w 4 A (t.map ndV)) (hc : t.length ≤ c) (hl : t.length ≤ 1048576) :
    Calls Tryz.prog 45 #[.slice A t.length c] w fun e w' => ∃ A' c', e = .returned (.slice A' t.length c') ∧ w'.ownsRow w.heap.size 41 4 (.slice A' t.length c') t.length (rowsE ndV t) ∧ Below w.heap.size w w' := by
  obtain ⟨it0, hi, hz0, hz1, hz2⟩ := info_parts info_nodeA
  cases A with
  | none =>
    have h0 : t = [] := by
      cases t with
      | nil => rfl
      | cons x r =>
        obtain ⟨ad, e, _⟩ := hR 0 (by simp)
        cases e
    subst h0
    have qN := fun (w : World) => Go.run_eql_slice_nil (P := Tryz.prog) w 23 41 none 0 c Tryz.underlying23
    go_enter Tryz.func45, Tryz.ntmps45
    go_wp2_with (fail)
    go_ret
    exact ⟨none, 0, rfl, World.ownsRow_nil _ _ _ _, Below.refl _ _⟩
  | some ad =>
    have HRD := Lib.hid (fun W (h : Below w.heap.size w W) => rows_readsA (by decide) ndV_length (hR.below h))
    have HI := Lib.hid hi
    clear hR hi
    have qN := fun (w : World) (n c : Nat) => Go.run_eql_slice_nil (P := Tryz.prog) w 23 41 (some ad) n c Tryz.underlying23
    go_enter Tryz.func45, Tryz.ntmps45
    go_wp2_with (at_builtin; refine wpList_append_slice rfl _ _ 23 rfl w.heap.size 41 it0 _ 4 48 Tryz.underlying23 HI.out hz0 hz1 hz2 rfl (by decide) (some ⟨w.heap.size, 0, none⟩) 0 0 [] rfl (empty_ownA w 41 4) (some ad) t.length c (rowsE ndV t) rfl (HRD.out _ ((Below.refl _ _).alloc (Nat.le_refl _) _)) (rowsE_oneCell ndV_oneCell t) ?c3 ?c4 ?c5 ?_)
    case c3 => unfold maxLen; omega
    case c4 => omega
    case c5 => simp
    intro A5 c5 w5 hown5 hg5
    have hb5 : Below w.heap.size w w5 := ((Below.refl _ _).alloc (Nat.le_refl _) _).grown hg5 (by simp) (fun k hk => by
      have hk' : w.heap.size = k := by injection hk
      omega)
    try simp only [Nat.zero_add, List.nil_append] at hown5
    have HO := Lib.hid hown5
    clear hown5 hg5 HRD
    go_wp2_with (fail)
    go_ret
    exact ⟨A5, c5, by first | rfl | simp, HO.out, hb5⟩

namespace Plain
def bareP (t : List Nd) : List Nd × Int := if treeOK t then (t.map bareOf, 0) else ([], 60)
def bared (t : List Nd) (i : Nat) : List Nd := (t.take i).map bareOf ++ t.drop i
theorem bared_length (t : List Nd) {i : Nat} (h : i ≤ t.length) : (bared t i).length = t.length := by unfold bared; simp; omega
theorem bared_zero (t : List Nd) : bared t 0 = t := by simp [bared]
theorem bared_all (t : List Nd) : bared t t.length = t.map bareOf := by simp [bared]
theorem bared_at {t : List Nd} {i : Nat} (h : i < t.length) : (bared t i)[i]'(by rw [bared_length t (by omega)]; exact h) = t[i] := by
  have hm : min i t.length = i := by omega
  unfold bared
  rw [List.getElem_append_right (by simp [hm])]
  simp [hm]
theorem bared_next {t : List Nd} {i : Nat} (h : i < t.length) : bared t (i + 1) = (bared t i).set i (bareOf t[i]) := by
  have hm : min i t.length = i := by omega
  unfold bared
  rw [List.take_succ_eq_append_getElem h, List.map_append, List.set_append_right _ _ (by simp [hm])]
  simp only [List.length_map, List.length_take, List.map_cons, List.map_nil, List.append_assoc, List.singleton_append]
  rw [show i - min i t.length = 0 by omega, List.drop_eq_getElem_cons h, List.set_cons_zero]
theorem set_same {l : List Nd} {i : Nat} (h : i < l.length) : l.set i l[i] = l := by simp
end Plain

/-- What Bare gives. -/
def BareOut (w : World) (r : List Nd × Int) (e : Ending) (w' : World) : Prop :=
  ∃ A c, e = .returned (.tuple #[.slice A r.1.length c, .int .i64 r.2]) ∧ r.1.length ≤ c ∧ IsRows w' 4 A (r.1.map ndV) ∧ Below w.heap.size w w'

set_option maxHeartbeats 2000000 in
set_option maxRecDepth 100000 in
theorem bare_any (t : List Nd) (A : Option Addr) (c : Nat) (m : Int) (w : World) (hL : Laid w m) (hR : IsRows w 4 A (t.map ndV)) (hc : t.length ≤ c) (hlen : t.length ≤ 9223372036854775807) (hp : ∀ n ∈ t, n.path.length ≤ 9223372036854775807 ∧ n.data.length ≤ 9223372036854775807) :
    Calls Tryz.prog 17 #[.slice A t.length c] w (BareOut w (bareP t)) := by
  have HT := Lib.hid (tcheck_any t A c m w hL hR hc hlen hp)
  cases hok : treeOK t with
  | false =>
    have HB := Lib.hid (show bareP t = ([], 60) by unfold bareP; rw [hok]; rfl)
    rw [HB.out]
    rw [hok] at HT
    have HT1 : Hid (Calls Tryz.prog 44 #[.slice A t.length c] w (Ret w (.int .i64 60))) := HT
    clear hok HT hR hL hp
    go_enter Tryz.func17, Tryz.ntmps17
    go_wp2_with (fail)
    refine HT1.out.mono ?_
    rintro e w1 ⟨rfl, hw1⟩
    go_wp2_with (fail)
    go_ret2
    exact ⟨none, 0, rfl, Nat.le_refl _, nil_rows _ _, hw1⟩
  | true =>
    have HB := Lib.hid (show bareP t = (t.map bareOf, 0) by unfold bareP; rw [hok]; rfl)
    rw [HB.out]
    rw [hok] at HT
    have HT1 : Hid (Calls Tryz.prog 44 #[.slice A t.length c] w (Ret w (.int .i64 0))) := HT
    obtain ⟨hl, htb⟩ := tree_bounds hok
    have HTB := Lib.hid htb
    have HCL := Lib.hid (fun W (h : Below w.heap.size w W) => clone_any t A c W (hR.below h) hc (by omega))
    clear hok HT hR hL hp htb
    go_enter Tryz.func17, Tryz.ntmps17
    go_wp2_with (fail)
    refine HT1.out.mono ?_
    rintro e w1 ⟨rfl, hw1⟩
    have HB1 := Lib.hid hw1
    clear hw1
    go_wp2_with (fail)
    refine (HCL.out _ HB1.out).mono ?_
    rintro e w2 ⟨A5, c5, rfl, hown, hw2⟩
    obtain ⟨A6, c6, e6, hc6, -, -⟩ := IsSlice.of_own hown
    injection e6 with e6 _ e7
    subst e6 e7
    have HB2 := Lib.hid (HB1.out.trans (hw2.mono HB1.out.size))
    have HO2 : Hid (w2.ownsRow w1.heap.size 41 4 (.slice A5 t.length c5) t.length (rowsE ndV (bared t 0))) := Lib.hid (by rw [bared_zero]; exact hown)
    have HLE := Lib.hid HB1.out.size
    clear hown hw2
    go_wp2_with (fail)
    go_loopw [13] (fun t13 W => ∃ i : Nat, i ≤ t.length ∧ t13 = .int .i64 i ∧ Hid (W.ownsRow w1.heap.size 41 4 (.slice A5 t.length c5) t.length (rowsE ndV (bared t i))) ∧ Hid (Below w.heap.size w W)) (fun t13 _ => t.length - (intOf t13).toNat)
    case atStart => exact ⟨0, by omega, rfl, HO2, HB2⟩
    case round =>
      clear HO2 HB2
      obtain ⟨i, hi, rfl, HO, HW⟩ := hrel
      have i0 : (0 : Int) ≤ i := by omega
      by_cases hlt : i < t.length
      · have i1 : (i : Int) < t.length := by omega
        have e1 : IntKind.i64.wrap ((i : Int) + 1) = (i : Int) + 1 := IntWalk.i64_in _ (by omega)
        have hbl := bared_length t (i := i) (by omega)
        have hIR := own_rowsA ndV_length HO.out hbl.symm
        obtain ⟨ad, rfl, c0, c1, c2, c3⟩ := node_cells hIR (i := i) (by rw [hbl]; exact hlt)
        have hgd : (bared t i).getD i default = t[i] := by rw [List.getD_eq_getElem?_getD, List.getElem?_eq_getElem (by rw [hbl]; exact hlt), Option.getD_some, bared_at hlt]
        rw [hgd] at c0 c1 c2 c3
        have HNX := Lib.hid (bared_next hlt)
        have HBA := Lib.hid (bared_at hlt)
        have hx := HTB.out _ (List.getElem_mem hlt)
        have HDL := Lib.hid hx.2.2.2
        obtain ⟨g, hg, hgb, hgl⟩ : ∃ g, ad = ⟨g, 0, none⟩ ∧ w1.heap.size ≤ g ∧ g < wr.heap.size := by
          obtain ⟨g, cap, e, h1, h2⟩ := HO.out.form (by omega)
          injection e with e _ _
          injection e with e
          exact ⟨g, e, h1, h2⟩
        have HG := Lib.hid hg
        have HGB := Lib.hid hgb
        clear hx hgd hIR hg hgb
        have HSUM := Lib.hid (fun W => Sum_any t[i].data W (by have := HDL.out; omega))
        have HHEX := Lib.hid (fun W => Hex_any (sha t[i].data) W (by rw [sha_length]; omega))
        have HBO := Lib.hid (show bareOf t[i] = if t[i].kind == 2 then t[i] else { t[i] with data := hex (sha t[i].data) } from rfl)
        have HGL := Lib.hid hgl
        obtain ⟨wn, hwn⟩ : ∃ wn, wr.alloc (.cells (ndV t[i]).toArray 41) = wn := ⟨_, rfl⟩
        have HWN := Lib.hid hwn
        have HNR := Lib.hid (show wn.heap[wr.heap.size]? = some (.cells (ndV t[i]).toArray 41 (0, 0)) by rw [← hwn]; exact heap_alloc_new _ _)
        have hbn := (show Below wr.heap.size wr wn by rw [← hwn]; exact (Below.refl _ _).alloc (Nat.le_refl _) _)
        have HBN := Lib.hid (HW.out.trans (hbn.mono HW.out.size))
        have HON := Lib.hid (HO.out.kept (row := none) ⟨hbn.os, hbn.tape, hbn.output, hbn.size, fun j hj _ => hbn.block j hj⟩ (.inr (by simp [Value.ownBlock])))
        generalize t[i] = nd at *
        unfold ndV at HWN HNR
        clear hwn hbn
        go_upto_region 7 with (fail)
        rw [HWN.out]
        have n1 := cell_of_row wn _ 1 _ _ _ HNR.out
        have n2 := cell_of_row wn _ 2 _ _ _ HNR.out
        by_cases hk : nd.kind = 2
        · have hk2 : (nd.kind != 2) = false := by simpa using hk
          have HOX : Hid (wn.ownsRow w1.heap.size 41 4 (.slice (some ad) t.length c5) t.length (rowsE ndV (bared t (i + 1)))) := Lib.hid (by
            rw [HNX.out, HBO.out, if_pos (by simpa using hk)]
            rw [← HBA.out, set_same]
            exact HON.out)
          clear HBA HNX HBO hk
          go_wp2_with (fail)
          go_roundw
          case rel => exact ⟨i + 1, by omega, by go_num, HOX, HBN⟩
          case measure => simp [intOf]; omega
        · have hk2 : (nd.kind != 2) = true := by simpa using hk
          have HK := Lib.hid hk
          clear hk
          go_wp2_with (fail)
          clear n1 n2
          refine (HSUM.out _).mono ?_
          rintro e wp ⟨rfl, hwp⟩
          have HBP := Lib.hid (HBN.out.trans (hwp.mono HBN.out.size))
          have HOP := Lib.hid (HON.out.kept (row := none) ⟨hwp.os, hwp.tape, hwp.output, hwp.size, fun j hj _ => hwp.block j hj⟩ (.inr (by simp [Value.ownBlock])))
          clear hwp
          go_wp2_with (fail)
          refine (HHEX.out _).mono ?_
          rintro e wq ⟨rfl, hwq⟩
          have HBQ := Lib.hid (HBP.out.trans (hwq.mono HBP.out.size))
          have HOQ := HOP.out.kept (row := none) ⟨hwq.os, hwq.tape, hwq.output, hwq.size, fun j hj _ => hwq.block j hj⟩ (.inr (by simp [Value.ownBlock]))
          have hcell := (show wq.cell? ⟨(ad.add (i * 4)).block, (ad.add (i * 4)).off + 2, none⟩ = some (.string ⟨nd.data.toArray⟩) by
            have h := own_rowsA ndV_length HOQ hbl.symm
            obtain ⟨ad', e', -, -, h2, -⟩ := node_cells h (i := i) (by rw [hbl]; exact hlt)
            injection e' with e'
            subst e'
            rw [List.getD_eq_getElem?_getD, List.getElem?_eq_getElem (by rw [hbl]; exact hlt), Option.getD_some, HBA.out] at h2
            exact h2)
          have hadd : (⟨(ad.add (i * 4)).block, (ad.add (i * 4)).off + 2, none⟩ : Addr) = ⟨g, i * 4 + 2, none⟩ := by
            rw [HG.out]; unfold Addr.add; split <;> simp_all
          have hHO := HOQ
          rw [HG.out, ← hbl] at hHO
          have hfz := (show wq.frozen? ⟨(ad.add (i * 4)).block, (ad.add (i * 4)).off + 2, none⟩ = false by rw [hadd]; exact rowsE_frozen hHO _)
          have hst := rowsE_setcell ndV_length hHO (j := i) (by rw [hbl]; exact hlt) (i := 2) (by decide) (.string ⟨(hex (sha nd.data)).toArray⟩) (bareOf nd) (by rw [HBA.out, HBO.out, if_neg (by simpa using HK.out)]; rfl)
          have HOX : Hid ((wq.setCell ⟨(ad.add (i * 4)).block, (ad.add (i * 4)).off + 2, none⟩ (.string ⟨(hex (sha nd.data)).toArray⟩)).ownsRow w1.heap.size 41 4 (.slice (some ad) t.length c5) t.length (rowsE ndV (bared t (i + 1)))) := Lib.hid (by
            rw [hadd, HG.out, HNX.out, ← hbl]; exact hst.1)
          have HBX : Hid (Below w.heap.size w (wq.setCell ⟨(ad.add (i * 4)).block, (ad.add (i * 4)).off + 2, none⟩ (.string ⟨(hex (sha nd.data)).toArray⟩))) := Lib.hid (by
            rw [hadd]; exact HBQ.out.setCell (p := ⟨g, i * 4 + 2, none⟩) (Nat.le_trans HLE.out HGB.out) _)
          clear hwq HOQ hHO hst hadd HOP HBA HNX HBO HSUM HHEX
          generalize hex (sha nd.data) = hx at *
          go_wp2_with (fail)
          go_roundw
          case rel => exact ⟨i + 1, by omega, by go_num, HOX, HBX⟩
          case measure => simp [intOf]; omega
      · obtain rfl : i = t.length := by omega
        have i1 : decide ((t.length : Int) < (t.length : Int)) = false := by rw [decide_eq_false_iff_not]; omega
        have HOE : Hid (wr.ownsRow w1.heap.size 41 4 (.slice A5 t.length c5) t.length (rowsE ndV (t.map bareOf))) := by have := HO; rwa [bared_all] at this
        go_wp2_with (fail)
        go_ret2
        exact ⟨A5, c5, by simp, by simpa using hc6, own_rowsA ndV_length HOE.out (by simp), HW.out⟩
end Go.Proofs.YtjajoiahgfafgaaGreatDoor
end

/- The document's reader of a rune. -/
section
set_option linter.unusedVariables false
namespace Go.Proofs.YtjajoiahgfafgaaGreatDoor
open Go.RowKit Plain

theorem u8c (x : UInt8) : (0 : Int) ≤ x.toNat ∧ (x.toNat : Int) ≤ 255 := by have := x.toNat_lt; omega

set_option maxHeartbeats 2000000 in
set_option maxRecDepth 100000 in
theorem rune_2 (l : List UInt8) (k : Nat) (w : World) (hk : k < l.length) (h63 : l.length ≤ 4294967296) (hlo : 194 ≤ (l[k]).toNat) (hhi : (l[k]).toNat ≤ 223) :
    Calls Tryz.prog 149 #[.string ⟨l.toArray⟩, .int .i64 k] w (Ret w (.int .i64 (runeW (l.drop k)))) := by
  have HW := Lib.hid (runeW_2 l k hk hlo hhi)
  have HV := Lib.hid (vAt_le l k ((l[k]).toNat - 192) (by omega))
  obtain ⟨v0, hv0⟩ : ∃ v0, (l[k]).toNat - 192 = v0 := ⟨_, rfl⟩
  have hv0' : ((l[k]).toNat : Int) - 192 = (v0 : Int) := by omega
  rw [hv0] at HW HV
  have HV0 := Lib.hid hv0'
  clear hv0 hv0'
  generalize hb : l[k] = b at *
  have hg0 : (ByteArray.mk l.toArray)[k]'(by simpa [ByteArray.size] using hk) = b := by rw [ba_get]; exact hb
  have i0 : (0 : Int) ≤ k := by omega
  have i1 : (k : Int) < l.length := by omega
  have b1 : (194 : Int) ≤ b.toNat := by omega
  have b2 : (b.toNat : Int) ≤ 223 := by omega
  clear hb
  by_cases hlen : l.length < k + 2
  · have HR := Lib.hid (HW.out.1 hlen)
    have hd : decide ((l.length : Int) < (k : Int) + 2) = true := by simp; omega
    clear hlen
    go_enter Tryz.func149, Tryz.ntmps149
    go_wp2_with (fail)
    go_ret
    exact ⟨by rw [HR.out]; rfl, Below.refl _ _⟩
  · have hd : decide ((l.length : Int) < (k : Int) + 2) = false := by simp; omega
    go_enter Tryz.func149, Tryz.ntmps149
    go_wp2_with (fail)
    go_loopw [8, 9] (fun t8 t9 W => ∃ i : Nat, 1 ≤ i ∧ i ≤ 2 ∧ t9 = .int .i64 i ∧ t8 = .int .i64 (vAt l k v0 i) ∧ Hid (∀ j, 1 ≤ j → j < i → 128 ≤ (l.getD (k + j) 0).toNat ∧ (l.getD (k + j) 0).toNat ≤ 191) ∧ W = w) (fun _ t9 _ => 8 - (intOf t9).toNat)
    case atStart => exact ⟨1, by omega, by omega, rfl, by rw [vAt_one, ← HV0.out], Lib.hid (fun j h1 h2 => by omega), rfl⟩
    case round =>
      obtain ⟨i, hi1, hi2, rfl, rfl, HC, rfl⟩ := hrel
      have hvi := HV.out i hi1 (by omega)
      by_cases hin : i < 2
      · have hg : l.getD (k + i) 0 = l[k + i]'(by omega) := by simp [List.getD, show k + i < l.length by omega]
        have HG := Lib.hid hg
        have hn1 : ((k : Int) + i).toNat = k + i := by omega
        have hp1 : (0 : Int) ≤ (k : Int) + i := by omega
        have hp2 : (k : Int) + i < l.length := by omega
        have hw1 : IntKind.i64.wrap ((k : Int) + i) = (k : Int) + i := IntWalk.i64_in _ (by omega)
        clear hg
        generalize hcc : l[k + i]'(by omega) = c at *
        have hg1 : (ByteArray.mk l.toArray)[k + i]'(by simp [ByteArray.size]; omega) = c := by rw [ba_get]; exact hcc
        clear hcc
        have hcb := u8c c
        by_cases hc : 128 ≤ c.toNat ∧ c.toNat ≤ 191
        · obtain ⟨hc1, hc2⟩ := hc
          have hc1' : (128 : Int) ≤ c.toNat := by omega
          have hc2' : (c.toNat : Int) ≤ 191 := by omega
          have hs : ((vAt l k v0 i : Nat) : Int) * 64 + c.toNat - 128 = ((vAt l k v0 (i + 1) : Nat) : Int) := by rw [vAt_succ l k v0 i hi1, HG.out]; omega
          have HS := Lib.hid hs
          have HGV : Hid (vAt l k v0 (i + 1) = vAt l k v0 (i + 1)) := Lib.hid rfl
          clear hs HGV
          generalize vAt l k v0 i = v at *
          go_wp2_with (fail)
          go_roundw
          case rel => exact ⟨i + 1, by omega, by omega, by go_num, by rw [← HS.out], Lib.hid (fun j h1 h2 => by
            by_cases e : j = i
            · subst e; rw [HG.out]; exact ⟨hc1, hc2⟩
            · exact HC.out j h1 (by omega)), by first | trivial | rfl⟩
          case measure => simp [intOf]; omega
        · have hz := HW.out.2.1 i hi1 hin (by omega) (by rw [HG.out]; exact hc)
          have HZ := Lib.hid hz
          clear hz
          by_cases hc1 : c.toNat < 128
          · have hc1' : (c.toNat : Int) < 128 := by omega
            clear hc
            generalize vAt l k v0 i = v at *
            go_wp2_with (fail)
            go_ret
            exact ⟨by rw [HZ.out]; rfl, Below.refl _ _⟩
          · have hc1' : (128 : Int) ≤ c.toNat := by omega
            have hc2' : (191 : Int) < c.toNat := by omega
            clear hc
            generalize vAt l k v0 i = v at *
            go_wp2_with (fail)
            go_ret
            exact ⟨by rw [HZ.out]; rfl, Below.refl _ _⟩
      · obtain rfl : i = 2 := by omega
        have HZ := Lib.hid (HW.out.2.2 (by omega) HC.out)
        generalize vAt l k v0 2 = v at *
        have v63 : (v : Int) ≤ 16777215 := by omega
        by_cases q1 : v < 128
        · have HF := Lib.hid (show finW 2 128 v = 0 by unfold finW; rw [if_pos (by omega)])
          have q1' : (v : Int) < 128 := by omega
          go_wp2_with (fail)
          go_ret
          exact ⟨by rw [HZ.out, HF.out]; rfl, Below.refl _ _⟩
        · have q1' : (128 : Int) ≤ v := by omega
          by_cases q2 : 1114111 < v
          · have HF := Lib.hid (show finW 2 128 v = 0 by unfold finW; rw [if_pos (by omega)])
            have q2' : (1114111 : Int) < v := by omega
            go_wp2_with (fail)
            go_ret
            exact ⟨by rw [HZ.out, HF.out]; rfl, Below.refl _ _⟩
          · have q2' : (v : Int) ≤ 1114111 := by omega
            by_cases q3 : 55296 ≤ v
            · have q3' : (55296 : Int) ≤ v := by omega
              by_cases q4 : v ≤ 57343
              · have HF := Lib.hid (show finW 2 128 v = 0 by unfold finW; rw [if_pos (by omega)])
                have q4' : (v : Int) ≤ 57343 := by omega
                go_wp2_with (fail)
                go_ret
                exact ⟨by rw [HZ.out, HF.out]; rfl, Below.refl _ _⟩
              · have HF := Lib.hid (show finW 2 128 v = 2 by unfold finW; rw [if_neg (by omega)])
                have q4' : (57343 : Int) < v := by omega
                go_wp2_with (fail)
                go_ret
                exact ⟨by rw [HZ.out, HF.out]; rfl, Below.refl _ _⟩
            · have HF := Lib.hid (show finW 2 128 v = 2 by unfold finW; rw [if_neg (by omega)])
              have q3' : decide ((55296 : Int) ≤ (v : Int)) = false := by simp; omega
              clear q1 q2 q3
              go_wp2_with (fail)
              go_ret
              exact ⟨by rw [HZ.out, HF.out]; rfl, Below.refl _ _⟩

set_option maxHeartbeats 2000000 in
set_option maxRecDepth 100000 in
theorem rune_3 (l : List UInt8) (k : Nat) (w : World) (hk : k < l.length) (h63 : l.length ≤ 4294967296) (hlo : 224 ≤ (l[k]).toNat) (hhi : (l[k]).toNat ≤ 239) :
    Calls Tryz.prog 149 #[.string ⟨l.toArray⟩, .int .i64 k] w (Ret w (.int .i64 (runeW (l.drop k)))) := by
  have HW := Lib.hid (runeW_3 l k hk hlo hhi)
  have HV := Lib.hid (vAt_le l k ((l[k]).toNat - 224) (by omega))
  obtain ⟨v0, hv0⟩ : ∃ v0, (l[k]).toNat - 224 = v0 := ⟨_, rfl⟩
  have hv0' : ((l[k]).toNat : Int) - 224 = (v0 : Int) := by omega
  rw [hv0] at HW HV
  have HV0 := Lib.hid hv0'
  clear hv0 hv0'
  generalize hb : l[k] = b at *
  have hg0 : (ByteArray.mk l.toArray)[k]'(by simpa [ByteArray.size] using hk) = b := by rw [ba_get]; exact hb
  have i0 : (0 : Int) ≤ k := by omega
  have i1 : (k : Int) < l.length := by omega
  have b1 : (224 : Int) ≤ b.toNat := by omega
  have b2 : (b.toNat : Int) ≤ 239 := by omega
  clear hb
  by_cases hlen : l.length < k + 3
  · have HR := Lib.hid (HW.out.1 hlen)
    have hd : decide ((l.length : Int) < (k : Int) + 3) = true := by simp; omega
    clear hlen
    go_enter Tryz.func149, Tryz.ntmps149
    go_wp2_with (fail)
    go_ret
    exact ⟨by rw [HR.out]; rfl, Below.refl _ _⟩
  · have hd : decide ((l.length : Int) < (k : Int) + 3) = false := by simp; omega
    go_enter Tryz.func149, Tryz.ntmps149
    go_wp2_with (fail)
    go_loopw [8, 9] (fun t8 t9 W => ∃ i : Nat, 1 ≤ i ∧ i ≤ 3 ∧ t9 = .int .i64 i ∧ t8 = .int .i64 (vAt l k v0 i) ∧ Hid (∀ j, 1 ≤ j → j < i → 128 ≤ (l.getD (k + j) 0).toNat ∧ (l.getD (k + j) 0).toNat ≤ 191) ∧ W = w) (fun _ t9 _ => 8 - (intOf t9).toNat)
    case atStart => exact ⟨1, by omega, by omega, rfl, by rw [vAt_one, ← HV0.out], Lib.hid (fun j h1 h2 => by omega), rfl⟩
    case round =>
      obtain ⟨i, hi1, hi2, rfl, rfl, HC, rfl⟩ := hrel
      have hvi := HV.out i hi1 (by omega)
      by_cases hin : i < 3
      · have hg : l.getD (k + i) 0 = l[k + i]'(by omega) := by simp [List.getD, show k + i < l.length by omega]
        have HG := Lib.hid hg
        have hn1 : ((k : Int) + i).toNat = k + i := by omega
        have hp1 : (0 : Int) ≤ (k : Int) + i := by omega
        have hp2 : (k : Int) + i < l.length := by omega
        have hw1 : IntKind.i64.wrap ((k : Int) + i) = (k : Int) + i := IntWalk.i64_in _ (by omega)
        clear hg
        generalize hcc : l[k + i]'(by omega) = c at *
        have hg1 : (ByteArray.mk l.toArray)[k + i]'(by simp [ByteArray.size]; omega) = c := by rw [ba_get]; exact hcc
        clear hcc
        have hcb := u8c c
        by_cases hc : 128 ≤ c.toNat ∧ c.toNat ≤ 191
        · obtain ⟨hc1, hc2⟩ := hc
          have hc1' : (128 : Int) ≤ c.toNat := by omega
          have hc2' : (c.toNat : Int) ≤ 191 := by omega
          have hs : ((vAt l k v0 i : Nat) : Int) * 64 + c.toNat - 128 = ((vAt l k v0 (i + 1) : Nat) : Int) := by rw [vAt_succ l k v0 i hi1, HG.out]; omega
          have HS := Lib.hid hs
          have HGV : Hid (vAt l k v0 (i + 1) = vAt l k v0 (i + 1)) := Lib.hid rfl
          clear hs HGV
          generalize vAt l k v0 i = v at *
          go_wp2_with (fail)
          go_roundw
          case rel => exact ⟨i + 1, by omega, by omega, by go_num, by rw [← HS.out], Lib.hid (fun j h1 h2 => by
            by_cases e : j = i
            · subst e; rw [HG.out]; exact ⟨hc1, hc2⟩
            · exact HC.out j h1 (by omega)), by first | trivial | rfl⟩
          case measure => simp [intOf]; omega
        · have hz := HW.out.2.1 i hi1 hin (by omega) (by rw [HG.out]; exact hc)
          have HZ := Lib.hid hz
          clear hz
          by_cases hc1 : c.toNat < 128
          · have hc1' : (c.toNat : Int) < 128 := by omega
            clear hc
            generalize vAt l k v0 i = v at *
            go_wp2_with (fail)
            go_ret
            exact ⟨by rw [HZ.out]; rfl, Below.refl _ _⟩
          · have hc1' : (128 : Int) ≤ c.toNat := by omega
            have hc2' : (191 : Int) < c.toNat := by omega
            clear hc
            generalize vAt l k v0 i = v at *
            go_wp2_with (fail)
            go_ret
            exact ⟨by rw [HZ.out]; rfl, Below.refl _ _⟩
      · obtain rfl : i = 3 := by omega
        have HZ := Lib.hid (HW.out.2.2 (by omega) HC.out)
        generalize vAt l k v0 3 = v at *
        have v63 : (v : Int) ≤ 16777215 := by omega
        by_cases q1 : v < 2048
        · have HF := Lib.hid (show finW 3 2048 v = 0 by unfold finW; rw [if_pos (by omega)])
          have q1' : (v : Int) < 2048 := by omega
          go_wp2_with (fail)
          go_ret
          exact ⟨by rw [HZ.out, HF.out]; rfl, Below.refl _ _⟩
        · have q1' : (2048 : Int) ≤ v := by omega
          by_cases q2 : 1114111 < v
          · have HF := Lib.hid (show finW 3 2048 v = 0 by unfold finW; rw [if_pos (by omega)])
            have q2' : (1114111 : Int) < v := by omega
            go_wp2_with (fail)
            go_ret
            exact ⟨by rw [HZ.out, HF.out]; rfl, Below.refl _ _⟩
          · have q2' : (v : Int) ≤ 1114111 := by omega
            by_cases q3 : 55296 ≤ v
            · have q3' : (55296 : Int) ≤ v := by omega
              by_cases q4 : v ≤ 57343
              · have HF := Lib.hid (show finW 3 2048 v = 0 by unfold finW; rw [if_pos (by omega)])
                have q4' : (v : Int) ≤ 57343 := by omega
                go_wp2_with (fail)
                go_ret
                exact ⟨by rw [HZ.out, HF.out]; rfl, Below.refl _ _⟩
              · have HF := Lib.hid (show finW 3 2048 v = 3 by unfold finW; rw [if_neg (by omega)])
                have q4' : (57343 : Int) < v := by omega
                go_wp2_with (fail)
                go_ret
                exact ⟨by rw [HZ.out, HF.out]; rfl, Below.refl _ _⟩
            · have HF := Lib.hid (show finW 3 2048 v = 3 by unfold finW; rw [if_neg (by omega)])
              have q3' : decide ((55296 : Int) ≤ (v : Int)) = false := by simp; omega
              clear q1 q2 q3
              go_wp2_with (fail)
              go_ret
              exact ⟨by rw [HZ.out, HF.out]; rfl, Below.refl _ _⟩

set_option maxHeartbeats 2000000 in
set_option maxRecDepth 100000 in
theorem rune_4 (l : List UInt8) (k : Nat) (w : World) (hk : k < l.length) (h63 : l.length ≤ 4294967296) (hlo : 240 ≤ (l[k]).toNat) (hhi : (l[k]).toNat ≤ 244) :
    Calls Tryz.prog 149 #[.string ⟨l.toArray⟩, .int .i64 k] w (Ret w (.int .i64 (runeW (l.drop k)))) := by
  have HW := Lib.hid (runeW_4 l k hk hlo hhi)
  have HV := Lib.hid (vAt_le l k ((l[k]).toNat - 240) (by omega))
  obtain ⟨v0, hv0⟩ : ∃ v0, (l[k]).toNat - 240 = v0 := ⟨_, rfl⟩
  have hv0' : ((l[k]).toNat : Int) - 240 = (v0 : Int) := by omega
  rw [hv0] at HW HV
  have HV0 := Lib.hid hv0'
  clear hv0 hv0'
  generalize hb : l[k] = b at *
  have hg0 : (ByteArray.mk l.toArray)[k]'(by simpa [ByteArray.size] using hk) = b := by rw [ba_get]; exact hb
  have i0 : (0 : Int) ≤ k := by omega
  have i1 : (k : Int) < l.length := by omega
  have b1 : (240 : Int) ≤ b.toNat := by omega
  have b2 : (b.toNat : Int) ≤ 244 := by omega
  clear hb
  by_cases hlen : l.length < k + 4
  · have HR := Lib.hid (HW.out.1 hlen)
    have hd : decide ((l.length : Int) < (k : Int) + 4) = true := by simp; omega
    clear hlen
    go_enter Tryz.func149, Tryz.ntmps149
    go_wp2_with (fail)
    go_ret
    exact ⟨by rw [HR.out]; rfl, Below.refl _ _⟩
  · have hd : decide ((l.length : Int) < (k : Int) + 4) = false := by simp; omega
    go_enter Tryz.func149, Tryz.ntmps149
    go_wp2_with (fail)
    go_loopw [8, 9] (fun t8 t9 W => ∃ i : Nat, 1 ≤ i ∧ i ≤ 4 ∧ t9 = .int .i64 i ∧ t8 = .int .i64 (vAt l k v0 i) ∧ Hid (∀ j, 1 ≤ j → j < i → 128 ≤ (l.getD (k + j) 0).toNat ∧ (l.getD (k + j) 0).toNat ≤ 191) ∧ W = w) (fun _ t9 _ => 8 - (intOf t9).toNat)
    case atStart => exact ⟨1, by omega, by omega, rfl, by rw [vAt_one, ← HV0.out], Lib.hid (fun j h1 h2 => by omega), rfl⟩
    case round =>
      obtain ⟨i, hi1, hi2, rfl, rfl, HC, rfl⟩ := hrel
      have hvi := HV.out i hi1 (by omega)
      by_cases hin : i < 4
      · have hg : l.getD (k + i) 0 = l[k + i]'(by omega) := by simp [List.getD, show k + i < l.length by omega]
        have HG := Lib.hid hg
        have hn1 : ((k : Int) + i).toNat = k + i := by omega
        have hp1 : (0 : Int) ≤ (k : Int) + i := by omega
        have hp2 : (k : Int) + i < l.length := by omega
        have hw1 : IntKind.i64.wrap ((k : Int) + i) = (k : Int) + i := IntWalk.i64_in _ (by omega)
        clear hg
        generalize hcc : l[k + i]'(by omega) = c at *
        have hg1 : (ByteArray.mk l.toArray)[k + i]'(by simp [ByteArray.size]; omega) = c := by rw [ba_get]; exact hcc
        clear hcc
        have hcb := u8c c
        by_cases hc : 128 ≤ c.toNat ∧ c.toNat ≤ 191
        · obtain ⟨hc1, hc2⟩ := hc
          have hc1' : (128 : Int) ≤ c.toNat := by omega
          have hc2' : (c.toNat : Int) ≤ 191 := by omega
          have hs : ((vAt l k v0 i : Nat) : Int) * 64 + c.toNat - 128 = ((vAt l k v0 (i + 1) : Nat) : Int) := by rw [vAt_succ l k v0 i hi1, HG.out]; omega
          have HS := Lib.hid hs
          have HGV : Hid (vAt l k v0 (i + 1) = vAt l k v0 (i + 1)) := Lib.hid rfl
          clear hs HGV
          generalize vAt l k v0 i = v at *
          go_wp2_with (fail)
          go_roundw
          case rel => exact ⟨i + 1, by omega, by omega, by go_num, by rw [← HS.out], Lib.hid (fun j h1 h2 => by
            by_cases e : j = i
            · subst e; rw [HG.out]; exact ⟨hc1, hc2⟩
            · exact HC.out j h1 (by omega)), by first | trivial | rfl⟩
          case measure => simp [intOf]; omega
        · have hz := HW.out.2.1 i hi1 hin (by omega) (by rw [HG.out]; exact hc)
          have HZ := Lib.hid hz
          clear hz
          by_cases hc1 : c.toNat < 128
          · have hc1' : (c.toNat : Int) < 128 := by omega
            clear hc
            generalize vAt l k v0 i = v at *
            go_wp2_with (fail)
            go_ret
            exact ⟨by rw [HZ.out]; rfl, Below.refl _ _⟩
          · have hc1' : (128 : Int) ≤ c.toNat := by omega
            have hc2' : (191 : Int) < c.toNat := by omega
            clear hc
            generalize vAt l k v0 i = v at *
            go_wp2_with (fail)
            go_ret
            exact ⟨by rw [HZ.out]; rfl, Below.refl _ _⟩
      · obtain rfl : i = 4 := by omega
        have HZ := Lib.hid (HW.out.2.2 (by omega) HC.out)
        generalize vAt l k v0 4 = v at *
        have v63 : (v : Int) ≤ 16777215 := by omega
        by_cases q1 : v < 65536
        · have HF := Lib.hid (show finW 4 65536 v = 0 by unfold finW; rw [if_pos (by omega)])
          have q1' : (v : Int) < 65536 := by omega
          go_wp2_with (fail)
          go_ret
          exact ⟨by rw [HZ.out, HF.out]; rfl, Below.refl _ _⟩
        · have q1' : (65536 : Int) ≤ v := by omega
          by_cases q2 : 1114111 < v
          · have HF := Lib.hid (show finW 4 65536 v = 0 by unfold finW; rw [if_pos (by omega)])
            have q2' : (1114111 : Int) < v := by omega
            go_wp2_with (fail)
            go_ret
            exact ⟨by rw [HZ.out, HF.out]; rfl, Below.refl _ _⟩
          · have q2' : (v : Int) ≤ 1114111 := by omega
            by_cases q3 : 55296 ≤ v
            · have q3' : (55296 : Int) ≤ v := by omega
              by_cases q4 : v ≤ 57343
              · have HF := Lib.hid (show finW 4 65536 v = 0 by unfold finW; rw [if_pos (by omega)])
                have q4' : (v : Int) ≤ 57343 := by omega
                go_wp2_with (fail)
                go_ret
                exact ⟨by rw [HZ.out, HF.out]; rfl, Below.refl _ _⟩
              · have HF := Lib.hid (show finW 4 65536 v = 4 by unfold finW; rw [if_neg (by omega)])
                have q4' : (57343 : Int) < v := by omega
                go_wp2_with (fail)
                go_ret
                exact ⟨by rw [HZ.out, HF.out]; rfl, Below.refl _ _⟩
            · have HF := Lib.hid (show finW 4 65536 v = 4 by unfold finW; rw [if_neg (by omega)])
              have q3' : decide ((55296 : Int) ≤ (v : Int)) = false := by simp; omega
              clear q1 q2 q3
              go_wp2_with (fail)
              go_ret
              exact ⟨by rw [HZ.out, HF.out]; rfl, Below.refl _ _⟩

set_option maxRecDepth 100000 in
theorem rune_asc (l : List UInt8) (k : Nat) (w : World) (hk : k < l.length) (h63 : l.length ≤ 4294967296) (hhi : (l[k]).toNat < 128) :
    Calls Tryz.prog 149 #[.string ⟨l.toArray⟩, .int .i64 k] w (Ret w (.int .i64 (runeW (l.drop k)))) := by
  have HR := Lib.hid (runeW_asc l k (by simpa [List.getD, hk] using hhi))
  generalize hb : l[k] = b at *
  have hg0 : (ByteArray.mk l.toArray)[k]'(by simpa [ByteArray.size] using hk) = b := by rw [ba_get]; exact hb
  have i0 : (0 : Int) ≤ k := by omega
  have i1 : (k : Int) < l.length := by omega
  have b0 := u8c b
  have b2 : (b.toNat : Int) < 128 := by omega
  clear hb
  go_enter Tryz.func149, Tryz.ntmps149
  go_wp2_with (fail)
  go_ret
  exact ⟨by rw [HR.out]; rfl, Below.refl _ _⟩
set_option maxRecDepth 100000 in
theorem rune_bad1 (l : List UInt8) (k : Nat) (w : World) (hk : k < l.length) (h63 : l.length ≤ 4294967296) (hlo : 128 ≤ (l[k]).toNat) (hhi : (l[k]).toNat < 194) :
    Calls Tryz.prog 149 #[.string ⟨l.toArray⟩, .int .i64 k] w (Ret w (.int .i64 (runeW (l.drop k)))) := by
  have HR := Lib.hid (runeW_bad l k (by simp [List.getD, hk]; omega))
  generalize hb : l[k] = b at *
  have hg0 : (ByteArray.mk l.toArray)[k]'(by simpa [ByteArray.size] using hk) = b := by rw [ba_get]; exact hb
  have i0 : (0 : Int) ≤ k := by omega
  have i1 : (k : Int) < l.length := by omega
  have b1 : (128 : Int) ≤ b.toNat := by omega
  have b2 : (b.toNat : Int) < 194 := by omega
  clear hb
  go_enter Tryz.func149, Tryz.ntmps149
  go_wp2_with (fail)
  go_ret
  exact ⟨by rw [HR.out]; rfl, Below.refl _ _⟩
set_option maxRecDepth 100000 in
theorem rune_bad2 (l : List UInt8) (k : Nat) (w : World) (hk : k < l.length) (h63 : l.length ≤ 4294967296) (hlo : 245 ≤ (l[k]).toNat) :
    Calls Tryz.prog 149 #[.string ⟨l.toArray⟩, .int .i64 k] w (Ret w (.int .i64 (runeW (l.drop k)))) := by
  have HR := Lib.hid (runeW_bad l k (by simp [List.getD, hk]; omega))
  generalize hb : l[k] = b at *
  have hg0 : (ByteArray.mk l.toArray)[k]'(by simpa [ByteArray.size] using hk) = b := by rw [ba_get]; exact hb
  have i0 : (0 : Int) ≤ k := by omega
  have i1 : (k : Int) < l.length := by omega
  have b1 : (245 : Int) ≤ b.toNat := by omega
  have b2 := u8c b
  clear hb
  go_enter Tryz.func149, Tryz.ntmps149
  go_wp2_with (fail)
  go_ret
  exact ⟨by rw [HR.out]; rfl, Below.refl _ _⟩
theorem rune_any (l : List UInt8) (k : Nat) (w : World) (hk : k < l.length) (h63 : l.length ≤ 4294967296) :
    Calls Tryz.prog 149 #[.string ⟨l.toArray⟩, .int .i64 k] w (Ret w (.int .i64 (runeW (l.drop k)))) := by
  by_cases h1 : (l[k]).toNat < 128
  · exact rune_asc l k w hk h63 h1
  by_cases h2 : (l[k]).toNat < 194
  · exact rune_bad1 l k w hk h63 (by omega) h2
  by_cases h3 : (l[k]).toNat ≤ 223
  · exact rune_2 l k w hk h63 (by omega) h3
  by_cases h4 : (l[k]).toNat ≤ 239
  · exact rune_3 l k w hk h63 (by omega) h4
  by_cases h5 : (l[k]).toNat ≤ 244
  · exact rune_4 l k w hk h63 (by omega) h5
  exact rune_bad2 l k w hk h63 (by omega)

theorem Valid_ref (l : List UInt8) (w : World) (h63 : l.length ≤ 4294967296) :
    Calls Tryz.prog 134 #[.string ⟨l.toArray⟩] w (Ret w (.bool (Lib.validD l))) := by
  have hw0 := Lib.hid (Below.refl w.heap.size w)
  go_enter Tryz.func134, Tryz.ntmps134
  go_wp2_with (fail)
  go_loopw [3] (fun t3 W => ∃ k : Nat, k ≤ l.length ∧ t3 = .int .i64 k ∧ Hid (Below w.heap.size w W) ∧ Hid (Lib.validD l = Lib.validD (l.drop k))) (fun t3 _ => l.length - (intOf t3).toNat)
  case atStart => exact ⟨0, by omega, rfl, hw0, Lib.hid (by rw [List.drop_zero])⟩
  case round =>
    obtain ⟨k, hk, rfl, HB, HV⟩ := hrel
    have i0 : (0 : Int) ≤ k := by omega
    by_cases hlt : k < l.length
    · have i1 : (k : Int) < l.length := by omega
      have HC := Lib.hid (rune_any l k wr hlt h63)
      have hstep := HV.out
      rw [validD_rune l k hlt] at hstep
      have hle := runeW_le l k hlt
      generalize runeW (l.drop k) = n at *
      have HST := Lib.hid hstep
      clear hstep HV
      by_cases hn : n = 0
      · subst hn
        go_wp2_with (fail)
        refine HC.out.mono ?_
        rintro e w1 ⟨rfl, hw1⟩
        go_wp2_with (fail)
        go_ret
        exact ⟨by rw [HST.out]; rfl, HB.out.trans (hw1.mono HB.out.size)⟩
      · have i2 : ((n : Int) == 0) = false := by simp; omega
        go_wp2_with (fail)
        refine HC.out.mono ?_
        rintro e w1 ⟨rfl, hw1⟩
        have HB1 := Lib.hid (HB.out.trans (hw1.mono HB.out.size))
        clear hw1
        go_wp2_with (fail)
        go_roundw
        case rel => exact ⟨k + n, by omega, by go_num, HB1, Lib.hid (by rw [HST.out, if_neg hn])⟩
        case measure => simp [intOf]; omega
    · obtain rfl : k = l.length := by omega
      have hv := HV.out
      rw [List.drop_length] at hv
      have HV' := Lib.hid hv
      clear hv HV
      go_wp2_with (fail)
      go_ret
      exact ⟨by rw [HV'.out]; rfl, HB.out⟩
end Go.Proofs.YtjajoiahgfafgaaGreatDoor
end

/- hawserref01: Name, Parts, Path. -/
section
namespace Go.Proofs.YtjajoiahgfafgaaGreatDoor
open Go.RowKit Plain

theorem anyM_take (s : List UInt8) (k : Nat) (h : k < s.length) : anyM (s.take (k + 1)) = (anyM (s.take k) || s[k] == 47 || s[k] == 0) := by
  unfold anyM
  rw [List.take_succ_eq_append_getElem h]
  simp only [List.contains_append, List.contains_cons, List.contains_nil, Bool.or_false]
  rw [show ((47 : UInt8) == s[k]) = (s[k] == 47) by rw [Bool.eq_iff_iff]; simp only [beq_iff_eq]; exact eq_comm, show ((0 : UInt8) == s[k]) = (s[k] == 0) by rw [Bool.eq_iff_iff]; simp only [beq_iff_eq]; exact eq_comm]
  cases (s.take k).contains 47 <;> cases (s.take k).contains 0 <;> cases s[k] == 47 <;> cases s[k] == 0 <;> rfl
theorem anyM_le (s : List UInt8) (k : Nat) (h : anyM (s.take k) = true) : anyM s = true := by
  unfold anyM at h ⊢
  simp only [Bool.or_eq_true, List.contains_iff_mem] at h ⊢
  rcases h with h | h
  · exact .inl (List.mem_of_mem_take h)
  · exact .inr (List.mem_of_mem_take h)

theorem mem_sum : ∀ {l : List (List UInt8)} {x : List UInt8}, x ∈ l → x.length ≤ (l.map List.length).sum
  | [], _, h => by cases h
  | y :: l, x, h => by
    rcases List.mem_cons.1 h with rfl | h
    · simp
    · have := mem_sum h; simp; omega
set_option maxRecDepth 100000 in
set_option maxHeartbeats 2000000 in
theorem Name_ref (s : List UInt8) (w : World) (hs : s.length ≤ 9223372036854775806) :
    Calls Tryz.prog 106 #[.string ⟨s.toArray⟩] w (Ret w (.bool (nameOK s))) := by
  rw [nameOK_any]
  by_cases h1 : s.length ≤ 64
  · have hc1 : decide ((64 : Int) < s.length) = false := by simp; omega
    have hc1' : decide (s.length ≤ 64) = true := by simp; omega
    rw [hc1']
    have HV := Lib.hid (fun W => Valid_ref s W (by omega))
    obtain ⟨b0, h0⟩ : ∃ b, s.isEmpty = b := ⟨_, rfl⟩
    obtain ⟨b2, h2⟩ : ∃ b, (s == [46]) = b := ⟨_, rfl⟩
    obtain ⟨b3, h3⟩ : ∃ b, (s == [46, 46]) = b := ⟨_, rfl⟩
    rw [h0, h2, h3]
    clear hc1'
    cases b0 with
    | true =>
      have hl : s.length = 0 := by cases s <;> simp_all
      have hd : decide ((s.length : Int) < 1) = true := by simp; omega
      have HA := Lib.hid hl
      clear hl
      go_enter Tryz.func106, Tryz.ntmps106
      go_wp2_with (fail)
      go_ret
      exact ⟨rfl, Below.refl _ _⟩
    | false =>
      have hl : 1 ≤ s.length := by cases s <;> simp_all
      have hd : decide ((s.length : Int) < 1) = false := by simp; omega
      cases b2 with
      | true =>
        go_enter Tryz.func106, Tryz.ntmps106
        go_wp2_with (fail)
        go_ret
        exact ⟨rfl, Below.refl _ _⟩
      | false =>
        cases b3 with
        | true =>
          go_enter Tryz.func106, Tryz.ntmps106
          go_wp2_with (fail)
          go_ret
          exact ⟨rfl, Below.refl _ _⟩
        | false =>
          generalize Lib.validD s = bv at *
          cases bv with
          | false =>
            go_enter Tryz.func106, Tryz.ntmps106
            go_wp2_with (fail)
            refine (HV.out _).mono ?_
            rintro e w1 ⟨rfl, hw1⟩
            go_wp2_with (fail)
            go_ret
            exact ⟨rfl, hw1⟩
          | true =>
            go_enter Tryz.func106, Tryz.ntmps106
            go_wp2_with (fail)
            refine (HV.out _).mono ?_
            rintro e w1 ⟨rfl, hw1⟩
            go_wp2_with (fail)
            go_loopw [3] (fun t3 W => ∃ k : Nat, k ≤ s.length ∧ t3 = .int .i64 k ∧ Hid (anyM (s.take k) = false) ∧ W = w1) (fun t3 _ => s.length - (intOf t3).toNat)
            case atStart => exact ⟨0, by omega, rfl, Lib.hid rfl, rfl⟩
            case round =>
              obtain ⟨k, hk, rfl, HN, rfl⟩ := hrel
              have i0 : (0 : Int) ≤ k := by omega
              by_cases hlt : k < s.length
              · have i1 : (k : Int) < s.length := by omega
                have ht := anyM_take s k hlt
                rw [HN.out, Bool.false_or] at ht
                have hg : (ByteArray.mk s.toArray)[k]'(by simpa [ByteArray.size] using hlt) = s[k] := rfl
                generalize s[k] = x at *
                have HT := Lib.hid ht
                by_cases e1 : x = 0
                · have HA := Lib.hid (anyM_le s (k + 1) (by rw [ht, e1]; rfl))
                  have hB : ((x.toNat : Int) == 0) = true := by rw [e1]; rfl
                  clear ht e1
                  go_wp2_with (fail)
                  go_ret
                  exact ⟨by rw [HA.out]; rfl, hw1⟩
                · have hB : ((x.toNat : Int) == 0) = false := by simp; exact fun h => e1 (UInt8.toNat.inj (by simpa using h))
                  by_cases e2 : x = 47
                  · have HA := Lib.hid (anyM_le s (k + 1) (by rw [ht, e2]; rfl))
                    have hB2 : ((x.toNat : Int) == 47) = true := by rw [e2]; rfl
                    clear ht e1 e2
                    go_wp2_with (fail)
                    go_ret
                    exact ⟨by rw [HA.out]; rfl, hw1⟩
                  · have hB2 : ((x.toNat : Int) == 47) = false := by
                      simp only [beq_eq_false_iff_ne, ne_eq]
                      exact fun h => e2 (UInt8.toNat.inj (by simp; omega))
                    have HF := Lib.hid (show anyM (s.take (k + 1)) = false by rw [ht]; simp [e1, e2])
                    clear ht e1 e2
                    go_wp2_with (fail)
                    go_roundw
                    case rel => exact ⟨k + 1, by omega, by go_num, HF, by first | trivial | rfl⟩
                    case measure => simp [intOf]; omega
              · obtain rfl : k = s.length := by omega
                have hn := HN.out
                rw [List.take_of_length_le (Nat.le_refl _)] at hn
                have HX := Lib.hid hn
                clear hn HN
                go_wp2_with (fail)
                go_ret
                exact ⟨by rw [HX.out]; rfl, hw1⟩
  · have hc1 : decide ((64 : Int) < s.length) = true := by simp; omega
    have hc1' : decide (s.length ≤ 64) = false := by simp; omega
    rw [hc1']
    have hd : decide ((s.length : Int) < 1) = false := by simp; omega
    clear hc1'
    go_enter Tryz.func106, Tryz.ntmps106
    go_wp2_with (fail)
    go_ret
    exact ⟨by simp, Below.refl _ _⟩

set_option maxRecDepth 100000 in
set_option maxHeartbeats 2000000 in
theorem Parts_ref (s : List UInt8) (w : World) (hs : s.length ≤ 8796093022200) :
    Calls Tryz.prog 105 #[.string ⟨s.toArray⟩] w (StrsOut w (parts s)) := by
  obtain ⟨i0, hi, hz0, hz1, hz2⟩ := info_parts info_string
  show Calls _ _ _ _ (StrsOut w (cutAt 47 [] s))
  go_enter Tryz.func105, Tryz.ntmps105
  go_wp2_with (fail)
  go_loopw [3, 4, 5] (fun t3 t4 t5 W => ∃ (i f : Nat) (d : List (List UInt8)), i ≤ s.length + 1 ∧ f ≤ i ∧ d.length ≤ i ∧ t5 = .int .i64 i ∧ t4 = .int .i64 f ∧ W.ownsRow w.heap.size 9 1 t3 d.length (strs d) ∧
    Hid ((i ≤ s.length → cutAt 47 [] (s.take i) = d ++ [(s.take i).drop f]) ∧ (i = s.length + 1 → cutAt 47 [] s = d)) ∧ Hid (Below w.heap.size w W)) (fun _ _ t5 _ => s.length + 1 - (intOf t5).toNat)
  case atStart => exact ⟨0, 0, [], by omega, by omega, by simp, rfl, rfl, World.ownsRow_nil _ _ _ _, Lib.hid ⟨fun _ => by simp [cutAt], fun h => by omega⟩, Lib.hid (Below.refl _ _)⟩
  case round =>
    obtain ⟨i, f, d, hi1, hf, hd, rfl, rfl, hown, HC, HB⟩ := hrel
    have hsw := HB.out.size
    have hi0 : (0 : Int) ≤ i := by omega
    by_cases hlt : i < s.length
    · have q1 : decide ((i : Int) ≤ s.length) = true := by simp; omega
      have q2 : ((i : Int) == s.length) = false := by simp; omega
      have hsn := cutAt_snoc 47 [] s[i] _ _ _ (HC.out.1 (by omega))
      rw [← List.take_succ_eq_append_getElem hlt] at hsn
      have hdr : (s.take (i + 1)).drop f = (s.take i).drop f ++ [s[i]] := by
        rw [List.take_succ_eq_append_getElem hlt, List.drop_append_of_le_length (by simp; omega)]
      have hcut : (s.drop f).take (i - f) = (s.take i).drop f := by rw [List.drop_take]
      have i1 : (i : Int) < s.length := by omega
      have hgb : (ByteArray.mk s.toArray)[i]'(by simpa [ByteArray.size] using hlt) = s[i] := rfl
      generalize hc : s[i] = c at *
      have HCUT := Lib.hid hcut
      clear hcut
      by_cases h47 : c = 47
      · rw [if_pos h47, List.append_nil] at hsn
        have HSN := Lib.hid hsn
        have hB : ((c.toNat : Int) == 47) = true := by rw [h47]; rfl
        clear hsn h47 hdr
        generalize hpp : (s.drop f).take (i - f) = p at HCUT
        go_wp2_with (at_builtin; refine wpList_append_own _ rfl _ _ 93 rfl w.heap.size 9 i0 _ 1 16 Tryz.underlying93 hi hz0 hz1 hz2 rfl (by decide) _ _ _ rfl (hown.alloc _) ⟨wr.heap.size, 0, none⟩ 1 1 [.string ⟨p.toArray⟩] rfl rfl (laid_one _ _ _) (one_oneCell rfl) ?c3 ?c4 ?c5 ?_)
        case c3 => unfold maxLen; omega
        case c4 => omega
        case c5 => simp; omega
        intro v1 w1 hown1 hg1 _
        have hb1 : Below w.heap.size w w1 := (HB.out.alloc hsw _).grown hg1 (by simp; omega) (fun k hk => (hown.lt k hk).1)
        have hown2 : w1.ownsRow w.heap.size 9 1 v1 (d ++ [p]).length (strs (d ++ [p])) := by
          rw [strs_append, List.length_append]; exact hown1
        have HB1 := Lib.hid hb1
        clear hg1 hb1 hown1 hpp
        go_wp2_with (fail)
        go_roundw
        case rel =>
          refine ⟨i + 1, i + 1, d ++ [p], by omega, by omega, by simp; omega, by go_num, by go_num, hown2, Lib.hid ⟨fun _ => ?_, fun h => by omega⟩, HB1⟩
          have h1 := HSN.out
          rw [← HCUT.out] at h1
          rw [h1, List.drop_eq_nil_of_le (by simp; omega)]; simp
        case measure => simp [intOf]; omega
      · rw [if_neg h47, ← hdr] at hsn
        have HSN := Lib.hid hsn
        have hB : ((c.toNat : Int) == 47) = false := by
          simp only [beq_eq_false_iff_ne, ne_eq]
          intro e; exact h47 (UInt8.toNat.inj (by simp; omega))
        clear hsn h47 hdr
        go_wp2_with (fail)
        go_roundw
        case rel => exact ⟨i + 1, f, d, by omega, by omega, by omega, by go_num, rfl, hown, Lib.hid ⟨fun _ => HSN.out, fun h => by omega⟩, HB⟩
        case measure => simp [intOf]; omega
    · by_cases he : i = s.length
      · have q1 : decide ((i : Int) ≤ s.length) = true := by simp; omega
        have q2 : ((i : Int) == s.length) = true := by simp; omega
        have hcs := HC.out.1 (by omega)
        have hcut : (s.drop f).take (i - f) = (s.take i).drop f := by rw [List.drop_take]
        rw [← hcut] at hcs
        rw [he, List.take_of_length_le (Nat.le_refl _), ← he] at hcs
        have HCS := Lib.hid hcs
        have i1 : (i : Int) ≤ s.length := by omega
        have HE := Lib.hid he
        clear hcs hcut he
        generalize hpp : (s.drop f).take (i - f) = p at HCS
        go_wp2_with (at_builtin; refine wpList_append_own _ rfl _ _ 93 rfl w.heap.size 9 i0 _ 1 16 Tryz.underlying93 hi hz0 hz1 hz2 rfl (by decide) _ _ _ rfl (hown.alloc _) ⟨wr.heap.size, 0, none⟩ 1 1 [.string ⟨p.toArray⟩] rfl rfl (laid_one _ _ _) (one_oneCell rfl) ?d3 ?d4 ?d5 ?_)
        case d3 => unfold maxLen; omega
        case d4 => omega
        case d5 => simp; omega
        intro v1 w1 hown1 hg1 _
        have hb1 : Below w.heap.size w w1 := (HB.out.alloc hsw _).grown hg1 (by simp; omega) (fun k hk => (hown.lt k hk).1)
        have hown2 : w1.ownsRow w.heap.size 9 1 v1 (d ++ [p]).length (strs (d ++ [p])) := by
          rw [strs_append, List.length_append]; exact hown1
        have HB1 := Lib.hid hb1
        clear hg1 hb1 hown1 hpp
        go_wp2_with (fail)
        go_roundw
        case rel => exact ⟨i + 1, i + 1, d ++ [p], by have := HE.out; omega, by omega, by simp; omega, by go_num, by go_num, hown2, Lib.hid ⟨fun h => by have := HE.out; omega, fun _ => HCS.out⟩, HB1⟩
        case measure => have := HE.out; simp [intOf]; omega
      · have hi' : i = s.length + 1 := by omega
        have q1 : decide ((i : Int) ≤ s.length) = false := by simp; omega
        have q1n : decide (i ≤ s.length) = false := by simp; omega
        have q1i : (s.length : Int) < i := by omega
        have hcs := HC.out.2 hi'
        have HCS := Lib.hid hcs
        obtain ⟨A, c, rfl, hc, hm, hr, hA0⟩ := of_own0 hown
        have HR := Lib.hid hr
        clear hown hr hcs hi' he
        go_wp2_with (fail)
        go_ret
        exact ⟨A, c, by rw [HCS.out]; rfl, by rw [HCS.out]; exact hc, hm, by rw [HCS.out]; exact HR.out, HB.out, hA0⟩

set_option maxRecDepth 100000 in
set_option maxHeartbeats 2000000 in
theorem Path_ref (s : List UInt8) (w : World) (hs : s.length ≤ 8796093022200) :
    Calls Tryz.prog 79 #[.string ⟨s.toArray⟩] w (Ret w (.bool (pathOK s))) := by
  have HP := Lib.hid (Parts_ref s w hs)
  have hpl := parts_length s
  have hcl := List.count_le_length (a := (47 : UInt8)) (l := s)
  unfold pathOK
  by_cases h1 : s.length ≤ 400
  · have q1 : decide ((400 : Int) < s.length) = false := by simp; omega
    have hmem : ∀ x ∈ parts s, x.length ≤ 9223372036854775806 := fun x hx => by
      have hj := join_length (parts s)
      rw [join_parts] at hj
      have := mem_sum hx
      omega
    rw [decide_eq_true h1, Bool.true_and]
    have HME := Lib.hid hmem
    clear hmem
    generalize parts s = l at *
    by_cases h2 : l.length ≤ 16
    · have q2 : decide ((16 : Int) < l.length) = false := by simp; omega
      rw [decide_eq_true h2, Bool.true_and]
      go_enter Tryz.func79, Tryz.ntmps79
      go_wp2_with (fail)
      refine HP.out.mono ?_
      rintro e w1 ⟨A, c, rfl, hc, hm, hr, hw1, hA0⟩
      have HR := Lib.hid hr
      clear hr
      go_wp2_with (fail)
      go_loopw [4] (fun t4 W => ∃ k : Nat, k ≤ l.length ∧ t4 = .int .i64 k ∧ Hid ((l.take k).all nameOK = true) ∧ Hid (Below w1.heap.size w1 W)) (fun t4 _ => l.length - (intOf t4).toNat)
      case atStart => exact ⟨0, by omega, rfl, Lib.hid rfl, Lib.hid (Below.refl _ _)⟩
      case round =>
        obtain ⟨k, hk, rfl, HN, HB⟩ := hrel
        have i0 : (0 : Int) ≤ k := by omega
        have hbel := HB.out
        by_cases hlt : k < l.length
        · obtain ⟨ad, rfl, cS⟩ := (HR.out.below hbel).str_at hlt
          have i1 : (k : Int) < l.length := by omega
          have ht : (l.take (k + 1)).all nameOK = nameOK l[k] := by
            rw [List.take_succ_eq_append_getElem hlt, List.all_append, HN.out]; simp
          have HMM := Lib.hid (List.getElem_mem hlt)
          have hN := Name_ref l[k] wr (HME.out _ (List.getElem_mem hlt))
          have hall : l.all nameOK = true → nameOK l[k] = true := fun h => List.all_eq_true.1 h _ (List.getElem_mem hlt)
          generalize l[k] = x at *
          have HT := Lib.hid ht
          have HALL := Lib.hid hall
          clear hbel ht hall
          cases hx : nameOK x with
          | true =>
            rw [hx] at hN HT
            have HNN := Lib.hid hN
            clear hN hx
            go_wp2_with (fail)
            refine HNN.out.mono ?_
            rintro e w2 ⟨rfl, hw2⟩
            have HB2 := Lib.hid (HB.out.trans (hw2.mono HB.out.size))
            clear hw2
            go_wp2_with (fail)
            go_roundw
            case rel => exact ⟨k + 1, by omega, by go_num, HT, HB2⟩
            case measure => simp [intOf]; omega
          | false =>
            rw [hx] at hN
            have HNN := Lib.hid hN
            have HF := Lib.hid (show l.all nameOK = false by
              rw [← Bool.not_eq_true]; intro h; have := HALL.out h; rw [hx] at this; cases this)
            clear hN hx
            go_wp2_with (fail)
            refine HNN.out.mono ?_
            rintro e w2 ⟨rfl, hw2⟩
            go_wp2_with (fail)
            go_ret
            exact ⟨by rw [HF.out]; rfl, hw1.trans ((HB.out.trans (hw2.mono HB.out.size)).mono hw1.size)⟩
        · obtain rfl : k = l.length := by omega
          have hn := HN.out
          rw [List.take_of_length_le (Nat.le_refl _)] at hn
          have HX := Lib.hid hn
          clear hn HN hbel
          go_wp2_with (fail)
          go_ret
          exact ⟨by rw [HX.out]; rfl, hw1.trans (HB.out.mono hw1.size)⟩
    · have q2 : decide ((16 : Int) < l.length) = true := by simp; omega
      rw [decide_eq_false h2, Bool.false_and]
      go_enter Tryz.func79, Tryz.ntmps79
      go_wp2_with (fail)
      refine HP.out.mono ?_
      rintro e w1 ⟨A, c, rfl, hc, hm, hr, hw1, hA0⟩
      go_wp2_with (fail)
      go_ret
      exact ⟨rfl, hw1⟩
  · have q1 : decide ((400 : Int) < s.length) = true := by simp; omega
    rw [decide_eq_false h1, Bool.false_and, Bool.false_and]
    generalize parts s = l at *
    go_enter Tryz.func79, Tryz.ntmps79
    go_wp2_with (fail)
    refine HP.out.mono ?_
    rintro e w1 ⟨A, c, rfl, hc, hm, hr, hw1, hA0⟩
    go_wp2_with (fail)
    go_ret
    exact ⟨rfl, hw1⟩
end Go.Proofs.YtjajoiahgfafgaaGreatDoor
end

/- hawserref01.Split, Parent, Base. -/
section
namespace Go.Proofs.YtjajoiahgfafgaaGreatDoor
open Go.RowKit Plain

theorem Split_ref (s : List UInt8) (w : World) (hs : s.length ≤ 8796093022200) :
    Calls Tryz.prog 108 #[.string ⟨s.toArray⟩] w (StrsOut w (splitM s)) := by
  have hp := Path_ref s w hs
  have HS := Lib.hid (fun W => Parts_ref s W hs)
  unfold splitM
  generalize parts s = l at *
  cases hok : pathOK s with
  | false =>
    rw [hok] at hp
    have HP := Lib.hid hp
    clear hp hok
    go_enter Tryz.func108, Tryz.ntmps108
    go_wp2_with (fail)
    refine HP.out.mono ?_
    rintro e w1 ⟨rfl, hw1⟩
    go_wp2_with (fail)
    go_ret
    exact ⟨none, 0, rfl, Nat.le_refl _, Nat.zero_le _, Reads.nil _ _ _, hw1, fun _ => rfl⟩
  | true =>
    rw [hok] at hp
    have HP := Lib.hid hp
    clear hp hok
    rw [if_pos rfl]
    go_enter Tryz.func108, Tryz.ntmps108
    go_wp2_with (fail)
    refine HP.out.mono ?_
    rintro e w1 ⟨rfl, hw1⟩
    go_wp2_with (fail)
    refine (HS.out _).mono ?_
    rintro e w2 ⟨A, c, rfl, hc, hm, hr, hw2, h0⟩
    go_wp2_with (fail)
    go_ret
    exact ⟨A, c, rfl, hc, hm, hr, hw1.trans (hw2.mono hw1.size), h0⟩

theorem splitM_length (s : List UInt8) : (splitM s).length ≤ 401 := by
  unfold splitM
  split
  · rename_i h
    have := pathOK_len h
    have := List.count_le_length (a := (47 : UInt8)) (l := s)
    rw [parts_length]; omega
  · simp
theorem Parent_ref (s : List UInt8) (w : World) (hs : s.length ≤ 8796093022200) :
    Calls Tryz.prog 82 #[.string ⟨s.toArray⟩] w (Ret w (.string ⟨(parentM s).toArray⟩)) := by
  have hS := Split_ref s w hs
  by_cases hok : pathOK s = true
  · by_cases h47 : 47 ∈ s
    · obtain ⟨p, q, rfl, hq⟩ := last_cut h47
      have hsp : splitM (p ++ 47 :: q) = parts p ++ [q] := by unfold splitM; rw [if_pos hok, parts_last p q hq]
      rw [hsp] at hS
      have hpar := parent_cut p q hq hok
      have hpn : 1 ≤ (parts p).length := by rw [parts_length]; omega
      have hpn2 := splitM_length (p ++ 47 :: q)
      rw [hsp, List.length_append, List.length_singleton] at hpn2
      have hll : (parts p ++ [q]).length = (parts p).length + 1 := by simp
      have hget : (strs (parts p ++ [q]))[(parts p).length]? = some (.string ⟨q.toArray⟩) := by
        simp [strs, strV]
      have htk : (p ++ 47 :: q).take p.length = p := by simp
      have hlen : ((p ++ 47 :: q).length : Int) = p.length + 1 + q.length := by simp; omega
      have h400 := pathOK_len hok
      have hq400 : p.length + 1 + q.length ≤ 400 := by simp at h400; omega
      unfold StrsOut at hS
      rw [hll] at hS
      generalize parts p = L at *
      have HS := Lib.hid hS
      have HPAR := Lib.hid hpar
      have HGET := Lib.hid hget
      clear hS hpar hok h47 hq hsp hget hll h400
      go_enter Tryz.func82, Tryz.ntmps82
      go_wp2_with (fail)
      refine HS.out.mono ?_
      rintro e w1 ⟨A, c, rfl, hc, hm, hr, hw1, hA0⟩
      obtain ⟨ad, rfl, hcell⟩ := hr.2 (by omega)
      have hc1 := hcell _ _ HGET.out
      have e1 : IntKind.i64.wrap ((L.length : Int) + 1 - 1) = (L.length : Int) := by rw [show (L.length : Int) + 1 - 1 = L.length by omega]; exact IntWalk.i64_in _ (by omega)
      have i1 : (L.length : Int) < (L.length : Int) + 1 := by omega
      clear hr hcell
      go_wp2_with (fail)
      go_ret
      exact ⟨by rw [HPAR.out]; simp; rw [show p.length + (q.length + 1) - q.length - 1 = p.length by omega]; exact htk, hw1⟩
    · have hsp : splitM s = [s] := by unfold splitM; rw [if_pos hok, parts_none s h47]
      rw [hsp] at hS
      rw [parent_none h47]
      have HS := Lib.hid hS
      clear hS hok h47 hsp
      go_enter Tryz.func82, Tryz.ntmps82
      go_wp2_with (fail)
      refine HS.out.mono ?_
      rintro e w1 ⟨A, c, rfl, hc, hm, hr, hw1, hA0⟩
      go_wp2_with (fail)
      go_ret
      exact ⟨rfl, hw1⟩
  · have hf : pathOK s = false := by simpa using hok
    have hsp : splitM s = [] := by unfold splitM; rw [hf]; rfl
    have hpar : parentM s = [] := by unfold parentM; rw [hf]; rfl
    rw [hsp] at hS
    rw [hpar]
    have HS := Lib.hid hS
    clear hS hok hf hsp hpar
    go_enter Tryz.func82, Tryz.ntmps82
    go_wp2_with (fail)
    refine HS.out.mono ?_
    rintro e w1 ⟨A, c, rfl, hc, hm, hr, hw1, hA0⟩
    go_wp2_with (fail)
    go_ret
    exact ⟨rfl, hw1⟩

end Go.Proofs.YtjajoiahgfafgaaGreatDoor
end

/- hawserref01.Texts at two slices that read alike. -/
section
namespace Go.Proofs.YtjajoiahgfafgaaGreatDoor
open Go.RowKit

end Go.Proofs.YtjajoiahgfafgaaGreatDoor
end
