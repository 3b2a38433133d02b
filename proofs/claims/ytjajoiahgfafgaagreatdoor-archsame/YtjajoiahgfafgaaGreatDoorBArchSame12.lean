/- hawserlaw09.ArchSame: whatever two trees it is handed, the law answers true: two trees are the same just if they are the same made bare, where no two unlike data have one fingerprint. No condition. -/
import Derived.Test.YtjajoiahgfafgaaGreatDoorBArchSame11
import Derived.Test.YtjajoiahgfafgaaGreatDoorBArchSame6
import Derived.Test.YtjajoiahgfafgaaGreatDoorShelf
import Derived.Test.YtjajoiahgfafgaaGreatDoorBCodeBase1
import Derived.Shelf.Vars
import Derived.Test.YtjajoiahgfafgaaGreatDoorBArchSame1
import Derived.Test.YtjajoiahgfafgaaGreatDoorBArchSame2
import Derived.Test.YtjajoiahgfafgaaGreatDoorCards
import Derived.LaidMore
set_option linter.unusedSimpArgs false
set_option linter.unusedVariables false

/- Opening of arguments: nodes, stamps, an archive. -/
section
namespace Go.Proofs.YtjajoiahgfafgaaGreatDoor
open Go.ChangeShapes Go.WideShapes Go.ChangeAt Go.RowKit Go.Deep Plain

def OkI (n : Int) : Prop := -9223372036854775808 ≤ n ∧ n ≤ 9223372036854775807
section
variable {H : Type} {enc : TypeId × Value → H} {w : World} {base : Nat} {held : Bool}
set_option maxRecDepth 100000 in
theorem open_nodes {v : Value} {d : DataW H} {ps : List MemPlace} (hd : ∃ fuel, DataW.trod enc Tryz.prog w base (fun _ => true) held fuel 23 [v] = some (d, ps)) :
    ∃ A c, ∃ l : List Nd, v = .slice A l.length c ∧ l.length ≤ c ∧ c ≤ maxLen ∧ IsRows w 4 A (l.map ndV) ∧ (∀ o ∈ l, (OkI o.kind ∧ OkI o.mode) ∧ o.path.length ≤ 9223372036854775807 ∧ o.data.length ≤ 9223372036854775807) ∧ (l.map fun o => o.path.length + o.data.length + 1).sum ≤ Rows.uptoBulk d := by
  obtain ⟨A, c, l, V, h1, h2, h3, h4, h5, h6, h7⟩ := open_rowsT (α := Nd) (fun vs x => vs = ndV x ∧ (OkI x.kind ∧ OkI x.mode) ∧ x.path.length ≤ 9223372036854775807 ∧ x.data.length ≤ 9223372036854775807) (fun x => x.path.length + x.data.length + 1) Tryz.underlying23 Tryz.underlying41 (by kernel_rfl) (by kernel_rfl) (fun vs ys n hv hy hf => by
    obtain ⟨v0, y0, a0, c0, t0⟩ := hf 0 _ rfl
    obtain ⟨v1, y1, a1, c1, t1⟩ := hf 1 _ rfl
    obtain ⟨v2, y2, a2, c2, t2⟩ := hf 2 _ rfl
    obtain ⟨v3, y3, a3, c3, t3⟩ := hf 3 _ rfl
    obtain ⟨m0, e0, f0, l0⟩ := trod_str Tryz.underlying9 t0
    obtain ⟨m1, e1, f1, k1⟩ := DataW.trod_int Tryz.underlying3 t1
    obtain ⟨m2, e2, f2, l2⟩ := trod_str Tryz.underlying9 t2
    obtain ⟨m3, e3, f3, k3⟩ := DataW.trod_int Tryz.underlying3 t3
    simp only [List.cons.injEq, and_true] at e1 e3
    subst e0 e1 e2 e3 f0 f2
    have l1 := bounds_i64 k1
    have l3 := bounds_i64 k3
    refine ⟨⟨m0, m1, m2, m3⟩, ⟨?_, ⟨l1, l3⟩, l0, l2⟩, ?_⟩
    · match vs, hv with
      | [b0, b1, b2, b3], _ =>
        simp at a0 a1 a2 a3
        rw [a0, a1, a2, a3]; rfl
    · match ys, hy with
      | [z0, z1, z2, z3], _ =>
        simp at c0 c2
        subst c0 c2
        simp only [List.map_cons, List.map_nil, Rows.uptoBulk, Rows.uptoBulkAll]
        omega) hd
  have hV : V = l.map ndV := List.ext_getElem (by rw [h4, List.length_map]) (fun k h h' => by rw [(h6 k (by simpa using h') h).1]; simp)
  subst hV
  refine ⟨A, c, l, h1, h2, h3, h5, fun o ho => ?_, h7⟩
  obtain ⟨k, hk, rfl⟩ := List.getElem_of_mem ho
  exact (h6 k hk (by simpa using hk)).2
set_option maxRecDepth 100000 in
theorem open_nodesW {r : Reach} {b0 : Nat} {v : Value} {d : DataW H} {ps : List MemPlace} (hval : Value.okWide Tryz.prog w r b0 23 v) (hd : DataW.Trod enc Tryz.prog w base (fun _ => true) held 23 v d ps) :
    ∃ A c, ∃ l : List Nd, v = .slice A l.length c ∧ l.length ≤ c ∧ c ≤ maxLen ∧ IsRows w 4 A (l.map ndV) ∧ (∀ o ∈ l, (OkI o.kind ∧ OkI o.mode) ∧ o.path.length ≤ 9223372036854775807 ∧ o.data.length ≤ 9223372036854775807) ∧ (l.map fun o => o.path.length + o.data.length + 1).sum ≤ Rows.uptoBulk d := by
  obtain ⟨a0, len, cap, rfl⟩ := okWide_slice Tryz.underlying23 hval
  obtain ⟨fuel, hf⟩ := hd
  exact open_nodes ⟨fuel, by simpa [Value.cells] using hf⟩
set_option maxRecDepth 100000 in
theorem open_stamps {v : Value} {d : DataW H} {ps : List MemPlace} (hd : ∃ fuel, DataW.trod enc Tryz.prog w base (fun _ => true) held fuel 24 [v] = some (d, ps)) :
    ∃ A c, ∃ l : List Stp, v = .slice A l.length c ∧ l.length ≤ c ∧ c ≤ maxLen ∧ IsRows w 3 A (l.map stV) ∧ (∀ o ∈ l, OkI o.ino ∧ OkI o.size ∧ OkI o.time) ∧ (l.map fun _ => 1).sum ≤ Rows.uptoBulk d := by
  obtain ⟨A, c, l, V, h1, h2, h3, h4, h5, h6, h7⟩ := open_rowsT (α := Stp) (fun vs x => vs = stV x ∧ OkI x.ino ∧ OkI x.size ∧ OkI x.time) (fun x => 1) Tryz.underlying24 Tryz.underlying55 (by kernel_rfl) (by kernel_rfl) (fun vs ys n hv hy hf => by
    obtain ⟨v0, y0, a0, c0, t0⟩ := hf 0 _ rfl
    obtain ⟨v1, y1, a1, c1, t1⟩ := hf 1 _ rfl
    obtain ⟨v2, y2, a2, c2, t2⟩ := hf 2 _ rfl
    obtain ⟨m0, e0, f0, k0⟩ := DataW.trod_int Tryz.underlying3 t0
    obtain ⟨m1, e1, f1, k1⟩ := DataW.trod_int Tryz.underlying3 t1
    obtain ⟨m2, e2, f2, k2⟩ := DataW.trod_int Tryz.underlying3 t2
    simp only [List.cons.injEq, and_true] at e0 e1 e2
    subst e0 e1 e2
    have l0 := bounds_i64 k0
    have l1 := bounds_i64 k1
    have l2 := bounds_i64 k2
    refine ⟨⟨m0, m1, m2⟩, ⟨?_, l0, l1, l2⟩, ?_⟩
    · match vs, hv with
      | [b0, b1, b2], _ =>
        simp at a0 a1 a2
        rw [a0, a1, a2]; rfl
    · match ys, hy with
      | [z0, z1, z2], _ =>
        simp only [List.map_cons, List.map_nil, Rows.uptoBulk, Rows.uptoBulkAll]
        omega) hd
  have hV : V = l.map stV := List.ext_getElem (by rw [h4, List.length_map]) (fun k h h' => by rw [(h6 k (by simpa using h') h).1]; simp)
  subst hV
  refine ⟨A, c, l, h1, h2, h3, h5, fun o ho => ?_, h7⟩
  obtain ⟨k, hk, rfl⟩ := List.getElem_of_mem ho
  exact (h6 k hk (by simpa using hk)).2
set_option maxRecDepth 100000 in
theorem open_arc {r : Reach} {b0 : Nat} {v : Value} {d : DataW H} {ps : List MemPlace} (hval : Value.okWide Tryz.prog w r b0 26 v) (hd : DataW.Trod enc Tryz.prog w base (fun _ => true) held 26 v d ps) :
    ∃ a A c B e, v = .agg (arV a A c B e).toArray ∧ ArAt a A c B e w ∧ Small a ∧ a.pair.length + (a.tree.map fun o => o.path.length + o.data.length + 1).sum ≤ Rows.uptoBulk d := by
  obtain ⟨vs, ys, n, rfl, hv, hy, rfl, hf⟩ := open_aggN Tryz.underlying26 (by kernel_rfl) (by kernel_rfl) hval hd
  obtain ⟨v0, y0, a0, b0, t0⟩ := hf 0 _ rfl
  obtain ⟨v1, y1, a1, b1, t1⟩ := hf 1 _ rfl
  obtain ⟨v2, y2, a2, b2, t2⟩ := hf 2 _ rfl
  obtain ⟨v3, y3, a3, b3, t3⟩ := hf 3 _ rfl
  obtain ⟨m0, e0, f0, l0⟩ := trod_str Tryz.underlying9 t0
  obtain ⟨m1, e1, f1, k1⟩ := DataW.trod_int Tryz.underlying3 t1
  obtain ⟨A, c, t, e2, hc, hm, hr, hk, hw⟩ := open_nodes (d := y2.1) (ps := y2.2) ⟨n, t2⟩
  obtain ⟨B, dd, s, e3, hc3, hm3, hr3, hk3, hw3⟩ := open_stamps (d := y3.1) (ps := y3.2) ⟨n, t3⟩
  simp only [List.cons.injEq, and_true] at e1
  have l1 := bounds_i64 k1
  subst e0 e1 e2 e3
  unfold maxLen at hm hm3
  refine ⟨⟨m0, m1, t, s⟩, A, c, B, dd, ?_, ⟨hr, hr3, hc, hc3, Nat.le_trans hc hm, Nat.le_trans hc3 hm3, fun n hn => (hk n hn).2, l0⟩, ⟨by show m1 < _; omega, fun x hx => ?_⟩, ?_⟩
  · match vs, hv with
    | [q0, q1, q2, q3], _ =>
      simp at a0 a1 a2 a3
      rw [a0, a1, a2, a3]; rfl
  · have := hk3 x hx
    unfold OkI at this
    omega
  · match ys, hy with
    | [z0, z1, z2, z3], _ =>
      simp at b0 b2
      subst b0 b2
      subst f0
      simp only [List.map_cons, List.map_nil, Rows.uptoBulk, Rows.uptoBulkAll]
      omega
end
end Go.Proofs.YtjajoiahgfafgaaGreatDoor
end

/- A library's variable holds some int. -/
section
namespace Go.Proofs.YtjajoiahgfafgaaGreatDoor
open Go.RowKit
theorem cell_maxLen {W : World} (hS : W.ShapedOpen Tryz.prog) : ∃ m, W.cell? ⟨0, 0, none⟩ = some (.int .i64 m) :=
  cell_of_shapedOpen_int (zero := #[.int .i64 0]) (t := 3) hS (of_decide_eq_true (by kernel_rfl)) (by kernel_rfl) rfl (by kernel_rfl) (by kernel_rfl) Tryz.underlying3
end Go.Proofs.YtjajoiahgfafgaaGreatDoor
end

/- The listed tables, as a call may lean on them. -/
section
namespace Go.Proofs.YtjajoiahgfafgaaGreatDoor
open Go.RowKit

theorem extra196 : Go.Proofs.U8Extra Tryz.prog lays196_ren := {
  n3 := by kernel_rfl
  n4 := by kernel_rfl
  y3 := by kernel_rfl
  y4 := by kernel_rfl
  c5 := by kernel_rfl
  c119 := by kernel_rfl
  c138 := by kernel_rfl }
theorem first_same : Lib.firstData = Rows.laid_unicode_utf8_first := by kernel_rfl
theorem accept_same : Lib.acceptData = Rows.laid_unicode_utf8_acceptRanges := by kernel_rfl
theorem tabs_of_laid {W : World} (h : laidMetH Tryz.prog [("unicode/utf8.acceptRanges", Rows.laid_unicode_utf8_acceptRanges), ("unicode/utf8.first", Rows.laid_unicode_utf8_first)] W) : Tabs W := by
  rw [MakeChecks.laidMetH_plain _ _ _ (by kernel_rfl)] at h
  obtain ⟨ps, hps, _⟩ := h
  exact Go.Proofs.utf8Tabs_of_readsT (Go.Proofs.U8Types.of196 lays196) extra196 (by rw [first_same]; exact Lib.LaidVars_reads hps _ _ (by simp)) (by rw [accept_same]; exact Lib.LaidVars_reads hps _ _ (by simp))
theorem laid_of {W : World} (hL : laidMetH Tryz.prog [("unicode/utf8.acceptRanges", Rows.laid_unicode_utf8_acceptRanges), ("unicode/utf8.first", Rows.laid_unicode_utf8_first)] W) (hS : W.ShapedOpen Tryz.prog) : ∃ m, Laid W m := by
  obtain ⟨m, hm⟩ := cell_maxLen hS
  exact ⟨m, tabs_of_laid hL, hm⟩
end Go.Proofs.YtjajoiahgfafgaaGreatDoor
end

section
set_option linter.unusedVariables false
namespace Go.Proofs.YtjajoiahgfafgaaGreatDoor
open Go.RowKit Plain

namespace Plain
/-- two data of one fingerprint -/
def hitB (x y : Nd) : Bool := !(x.data == y.data) && (((bareOf x).data == (bareOf y).data) && (!(x.kind == 2) && !(y.kind == 2)))
theorem bare_parts (x : Nd) : (bareOf x).path = x.path ∧ (bareOf x).kind = x.kind ∧ (bareOf x).mode = x.mode := by
  unfold bareOf; split <;> exact ⟨rfl, rfl, rfl⟩
theorem same_bare {t u : List Nd} (hne : (t == u) = false) (hh : ∀ i, i < t.length → ∀ k, k < u.length → hitB (t.getD i default) (u.getD k default) = false) : (t.map bareOf == u.map bareOf) = false := by
  rw [beq_eq_false_iff_ne]
  intro h
  have hl : t.length = u.length := by have := congrArg List.length h; simpa using this
  rw [beq_eq_false_iff_ne] at hne
  refine hne (List.ext_getElem hl fun i h1 h2 => ?_)
  have e : bareOf t[i] = bareOf u[i] := by
    have := congrArg (fun l : List Nd => l[i]?) h
    simpa [List.getElem?_map, h1, h2] using this
  have hb := hh i h1 i h2
  rw [List.getD_eq_getElem?_getD, List.getElem?_eq_getElem h1, Option.getD_some, List.getD_eq_getElem?_getD, List.getElem?_eq_getElem h2, Option.getD_some] at hb
  generalize t[i] = x at *
  generalize u[i] = y at *
  obtain ⟨px, kx, mx⟩ := bare_parts x
  obtain ⟨py, ky, my⟩ := bare_parts y
  have e1 : x.path = y.path := by rw [← px, ← py, e]
  have e2 : x.kind = y.kind := by rw [← kx, ← ky, e]
  have e3 : x.mode = y.mode := by rw [← mx, ← my, e]
  by_cases hk : x.kind = 2
  · have hx : bareOf x = x := by unfold bareOf; rw [if_pos (by simpa using hk)]
    have hy : bareOf y = y := by unfold bareOf; rw [if_pos (by rw [← e2]; simpa using hk)]
    rw [← hx, ← hy]; exact e
  · unfold hitB at hb
    have hk2 : ¬ y.kind = 2 := by rw [← e2]; exact hk
    have hd : (x.kind == 2) = false := by simpa using hk
    have hd2 : (y.kind == 2) = false := by simpa using hk2
    rw [hd, hd2, e] at hb
    have e4 : x.data = y.data := by simpa using hb
    obtain ⟨a, b, c, d⟩ := x
    obtain ⟨a', b', c', d'⟩ := y
    simp only at e1 e2 e3 e4
    rw [e1, e2, e3, e4]
end Plain
theorem getD_bare {t : List Nd} {i : Nat} (h : i < t.length) : (t.map bareOf).getD i default = bareOf (t.getD i default) := by
  rw [List.getD_eq_getElem?_getD, List.getD_eq_getElem?_getD, List.getElem?_map, List.getElem?_eq_getElem h]; rfl

set_option maxHeartbeats 4000000 in
set_option maxRecDepth 100000 in
theorem ArchSame_any (t u : List Nd) (A B : Option Addr) (c d : Nat) (m : Int) (w : World) (hL : Laid w m) (hA : IsRows w 4 A (t.map ndV)) (hB : IsRows w 4 B (u.map ndV)) (hc : t.length ≤ c) (hd : u.length ≤ d) (hlt : t.length ≤ 9223372036854775807) (hlu : u.length ≤ 9223372036854775807)
    (hpt : ∀ n ∈ t, n.path.length ≤ 9223372036854775807 ∧ n.data.length ≤ 9223372036854775807) (hpu : ∀ n ∈ u, n.path.length ≤ 9223372036854775807 ∧ n.data.length ≤ 9223372036854775807) :
    Calls Tryz.prog 6 #[.slice A t.length c, .slice B u.length d] w (Ret w (.bool true)) := by
  have HAW := Lib.hid (fun W (h : Below w.heap.size w W) => aawake_any m W (hL.below h))
  have HBT := Lib.hid (fun W (h : Below w.heap.size w W) => bare_any t A c m W (hL.below h) (hA.below h) hc hlt hpt)
  have HBU := Lib.hid (fun W (h : Below w.heap.size w W) => bare_any u B d m W (hL.below h) (hB.below h) hd hlu hpu)
  have HSM := Lib.hid (fun W (h : Below w.heap.size w W) => tsame_any t u A B c d W (hA.below h) (hB.below h) hlt hlu)
  have HRT := Lib.hid (fun W (h : Below w.heap.size w W) => hA.below h)
  have HRU := Lib.hid (fun W (h : Below w.heap.size w W) => hB.below h)
  have HSB := Lib.hid (fun (W : World) A5 c5 B5 d5 (h1 : IsRows W 4 A5 ((t.map bareOf).map ndV)) (h2 : IsRows W 4 B5 ((u.map bareOf).map ndV)) => tsame_any (t.map bareOf) (u.map bareOf) A5 B5 c5 d5 W h1 h2 (by simpa using hlt) (by simpa using hlu))
  have HWH := Lib.hid (same_bare (t := t) (u := u))
  clear hL hA hB hpt hpu
  cases hok : treeOK t with
  | false =>
    have HB := Lib.hid (show bareP t = ([], 60) by unfold bareP; rw [hok]; rfl)
    rw [HB.out] at HBT
    obtain ⟨r, hr⟩ : ∃ r, bareP u = r := ⟨_, rfl⟩
    rw [hr] at HBU
    clear hok hr HWH
    go_enter Tryz.func6, Tryz.ntmps6
    go_wp2_with (fail)
    refine (HAW.out _ (Below.refl _ _)).mono ?_
    rintro e w1 ⟨rfl, hw⟩
    have HB1 := Lib.hid hw
    clear hw
    go_wp2_with (fail)
    refine (HBT.out _ HB1.out).mono ?_
    rintro e w2 ⟨A5, c5, rfl, -, -, hw⟩
    have HB2 := Lib.hid (HB1.out.trans (hw.mono HB1.out.size))
    clear hw
    simp only [List.length_nil]
    go_wp2_with (fail)
    refine (HBU.out _ HB2.out).mono ?_
    rintro e w3 ⟨B5, d5, rfl, -, -, hw⟩
    have HB3 := Lib.hid (HB2.out.trans (hw.mono HB2.out.size))
    clear hw
    go_wp2_with (fail)
    go_ret
    exact ⟨rfl, HB3.out⟩
  | true =>
  have HBP := Lib.hid (show bareP t = (t.map bareOf, 0) by unfold bareP; rw [hok]; rfl)
  rw [HBP.out] at HBT
  clear hok
  cases hok2 : treeOK u with
  | false =>
    have HB := Lib.hid (show bareP u = ([], 60) by unfold bareP; rw [hok2]; rfl)
    rw [HB.out] at HBU
    clear hok2 HWH
    have HLN := Lib.hid (show (t.map bareOf).length = t.length by simp)
    generalize (t.map bareOf) = a at *
    obtain ⟨bz, hbz⟩ : ∃ b, ((a.length : Int) == 0) = b := ⟨_, rfl⟩
    go_enter Tryz.func6, Tryz.ntmps6
    go_wp2_with (fail)
    refine (HAW.out _ (Below.refl _ _)).mono ?_
    rintro e w1 ⟨rfl, hw⟩
    have HB1 := Lib.hid hw
    clear hw
    go_wp2_with (fail)
    refine (HBT.out _ HB1.out).mono ?_
    rintro e w2 ⟨A5, c5, rfl, -, -, hw⟩
    have HB2 := Lib.hid (HB1.out.trans (hw.mono HB1.out.size))
    clear hw
    simp only
    go_wp2_with (fail)
    refine (HBU.out _ HB2.out).mono ?_
    rintro e w3 ⟨B5, d5, rfl, -, -, hw⟩
    have HB3 := Lib.hid (HB2.out.trans (hw.mono HB2.out.size))
    clear hw
    simp only [List.length_nil]
    cases bz
    all_goals
      go_wp2_with (fail)
      go_ret
      exact ⟨rfl, HB3.out⟩
  | true =>
  have HBQ := Lib.hid (show bareP u = (u.map bareOf, 0) by unfold bareP; rw [hok2]; rfl)
  rw [HBQ.out] at HBU
  clear hok2
  have HLN := Lib.hid (show (t.map bareOf).length = t.length by simp)
  have HLM := Lib.hid (show (u.map bareOf).length = u.length by simp)
  have HGT : Hid (∀ i, i < t.length → (t.map bareOf).getD i default = bareOf (t.getD i default)) := Lib.hid (fun i h => getD_bare h)
  have HGU : Hid (∀ i, i < u.length → (u.map bareOf).getD i default = bareOf (u.getD i default)) := Lib.hid (fun i h => getD_bare h)
  cases hs : (t == u) with
  | true =>
    have HEQ := Lib.hid (show (t.map bareOf == u.map bareOf) = true by rw [beq_iff_eq] at hs ⊢; rw [hs])
    rw [hs] at HSM
    generalize (t.map bareOf) = a at *
    generalize (u.map bareOf) = b at *
    rw [HEQ.out] at HSB
    clear hs HWH HGT HGU
    go_enter Tryz.func6, Tryz.ntmps6
    go_wp2_with (fail)
    refine (HAW.out _ (Below.refl _ _)).mono ?_
    rintro e w1 ⟨rfl, hw⟩
    have HB1 := Lib.hid hw
    clear hw
    go_wp2_with (fail)
    refine (HBT.out _ HB1.out).mono ?_
    rintro e w2 ⟨A5, c5, rfl, -, hra, hw⟩
    have HRA := Lib.hid hra
    have HB2 := Lib.hid (HB1.out.trans (hw.mono HB1.out.size))
    clear hw hra
    go_wp2_with (fail)
    refine (HBU.out _ HB2.out).mono ?_
    rintro e w3 ⟨B5, d5, rfl, -, hrb, hw⟩
    have HRB := Lib.hid hrb
    have HRA3 := Lib.hid (HRA.out.below hw)
    have HB3 := Lib.hid (HB2.out.trans (hw.mono HB2.out.size))
    clear hw hrb
    go_wp2_with (fail)
    refine (HSM.out _ HB3.out).mono ?_
    rintro e w4 ⟨rfl, hw⟩
    have HRA4 := Lib.hid (HRA3.out.below hw)
    have HRB4 := Lib.hid (HRB.out.below hw)
    have HB4 := Lib.hid (HB3.out.trans (hw.mono HB3.out.size))
    clear hw
    go_wp2_with (fail)
    refine (HSB.out _ A5 c5 B5 d5 HRA4.out HRB4.out).mono ?_
    rintro e w5 ⟨rfl, hw⟩
    go_wp2_with (fail)
    go_ret
    exact ⟨rfl, HB4.out.trans (hw.mono HB4.out.size)⟩
  | false =>
  rw [hs] at HSM
  have HWH2 := Lib.hid (HWH.out hs)
  clear hs HWH
  generalize (t.map bareOf) = a at *
  generalize (u.map bareOf) = b at *
  have hn1 : ((a.length : Int) != (t.length : Int)) = false := by rw [bne_eq_false_iff_eq]; have := HLN.out; omega
  have hn2 : ((b.length : Int) != (u.length : Int)) = false := by rw [bne_eq_false_iff_eq]; have := HLM.out; omega
  go_enter Tryz.func6, Tryz.ntmps6
  go_wp2_with (fail)
  refine (HAW.out _ (Below.refl _ _)).mono ?_
  rintro e w1 ⟨rfl, hw⟩
  have HB1 := Lib.hid hw
  clear hw
  go_wp2_with (fail)
  refine (HBT.out _ HB1.out).mono ?_
  rintro e w2 ⟨A5, c5, rfl, -, hra, hw⟩
  have HRA := Lib.hid hra
  have HB2 := Lib.hid (HB1.out.trans (hw.mono HB1.out.size))
  clear hw hra
  go_wp2_with (fail)
  refine (HBU.out _ HB2.out).mono ?_
  rintro e w3 ⟨B5, d5, rfl, -, hrb, hw⟩
  have HRB := Lib.hid hrb
  have HRA3 := Lib.hid (HRA.out.below hw)
  have HB3 := Lib.hid (HB2.out.trans (hw.mono HB2.out.size))
  clear hw hrb
  go_wp2_with (fail)
  refine (HSM.out _ HB3.out).mono ?_
  rintro e w4 ⟨rfl, hw⟩
  have HRA4 := Lib.hid (fun W (h : Below w4.heap.size w4 W) => (HRA3.out.below hw).below h)
  have HRB4 := Lib.hid (fun W (h : Below w4.heap.size w4 W) => (HRB.out.below hw).below h)
  have HB4 := Lib.hid (HB3.out.trans (hw.mono HB3.out.size))
  have HUP := Lib.hid (show ∀ W, Below w4.heap.size w4 W → Below w.heap.size w W from fun W h => HB4.out.trans (h.mono HB4.out.size))
  clear hw
  clear HRA3 HRB HRA HAW HBT HBU HSM HB3 HB2 HB1
  go_wp2_with (fail)
  go_loopw [57] (fun t57 W => ∃ i : Nat, i ≤ t.length ∧ t57 = .int .i64 i ∧ Hid (∀ i', i' < i → ∀ k, k < u.length → hitB (t.getD i' default) (u.getD k default) = false) ∧ Hid (Below w4.heap.size w4 W)) (fun t57 _ => t.length - (intOf t57).toNat)
  case atStart => exact ⟨0, by omega, rfl, Lib.hid (fun i' h => by omega), Lib.hid (Below.refl _ _)⟩
  case round =>
    obtain ⟨i, hi, rfl, HN, HW⟩ := hrel
    have i0 : (0 : Int) ≤ i := by omega
    by_cases hit : i < t.length
    · have i1 : (i : Int) < t.length := by omega
      have i2 : (i : Int) < a.length := by have := HLN.out; omega
      have e1 : IntKind.i64.wrap ((i : Int) + 1) = (i : Int) + 1 := IntWalk.i64_in _ (by omega)
      go_wp2_with (fail)
      go_loopw [62] (fun t62 W => ∃ k : Nat, k ≤ u.length ∧ t62 = .int .i64 k ∧ Hid (∀ k', k' < k → hitB (t.getD i default) (u.getD k' default) = false) ∧ Hid (Below w4.heap.size w4 W)) (fun t62 _ => u.length - (intOf t62).toNat)
      case atStart => exact ⟨0, by omega, rfl, Lib.hid (fun k' h => by omega), HW⟩
      case round =>
        clear HW
        obtain ⟨k, hk, rfl, HK, HW⟩ := hrel
        have k0 : (0 : Int) ≤ k := by omega
        by_cases hkt : k < u.length
        · have k1 : (k : Int) < u.length := by omega
          have k2 : (k : Int) < b.length := by have := HLM.out; omega
          have e2 : IntKind.i64.wrap ((k : Int) + 1) = (k : Int) + 1 := IntWalk.i64_in _ (by omega)
          have HST : Hid (hitB (t.getD i default) (u.getD k default) = false → ∀ k', k' < k + 1 → hitB (t.getD i default) (u.getD k' default) = false) := Lib.hid (fun h k' hk' => by
            by_cases e : k' = k
            · rw [e]; exact h
            · exact HK.out k' (by omega))
          obtain ⟨ad, rfl, c0, c1, c2, c3⟩ := node_cells (HRT.out _ (HUP.out _ HW.out)) hit
          obtain ⟨bd, rfl, d0, d1, d2, d3⟩ := node_cells (HRU.out _ (HUP.out _ HW.out)) hkt
          obtain ⟨fd, rfl, f0, f1, f2, f3⟩ := node_cells (HRA4.out _ HW.out) (i := i) (by have := HLN.out; omega)
          obtain ⟨gd, rfl, g0, g1, g2, g3⟩ := node_cells (HRB4.out _ HW.out) (i := k) (by have := HLM.out; omega)
          rw [HGT.out i hit] at f2
          rw [HGU.out k hkt] at g2
          clear c0 c3 d0 d3 f0 f1 f3 g0 g1 g3
          have HHB : Hid (hitB (t.getD i default) (u.getD k default) = (!((t.getD i default).data == (u.getD k default).data) && (((bareOf (t.getD i default)).data == (bareOf (u.getD k default)).data) && (!((t.getD i default).kind == 2) && !((u.getD k default).kind == 2))))) := Lib.hid rfl
          generalize hitB (t.getD i default) (u.getD k default) = hb at *
          generalize (t.getD i default).data = s1 at *
          generalize (u.getD k default).data = s2 at *
          generalize (bareOf (t.getD i default)).data = s3 at *
          generalize (bareOf (u.getD k default)).data = s4 at *
          generalize (t.getD i default).kind = q1 at *
          generalize (u.getD k default).kind = q2 at *
          cases h1 : (s1 == s2) with
          | true =>
            have HF := Lib.hid (show hb = false by rw [HHB.out, h1]; rfl)
            go_wp2_with (fail)
            go_quiet (fail)
            go_wp2_with (fail)
            go_roundw
            case rel => exact ⟨k + 1, by omega, by go_num, Lib.hid (HST.out HF.out), Lib.hid (below_drewN HW.out _)⟩
            case measure => simp [intOf]; omega
          | false =>
          cases h2 : (s3 == s4) with
          | false =>
            have HF := Lib.hid (show hb = false by rw [HHB.out, h1, h2]; rfl)
            go_wp2_with (fail)
            go_quiet (fail)
            go_wp2_with (fail)
            go_roundw
            case rel => exact ⟨k + 1, by omega, by go_num, Lib.hid (HST.out HF.out), Lib.hid (below_drewN HW.out _)⟩
            case measure => simp [intOf]; omega
          | true =>
          by_cases h3 : q1 = 2
          · have h3' : (q1 == 2) = true := by simpa using h3
            have h3n : (q1 != 2) = false := by simpa using h3
            have HF := Lib.hid (show hb = false by rw [HHB.out, h1, h2, h3']; rfl)
            go_wp2_with (fail)
            go_quiet (fail)
            go_wp2_with (fail)
            go_roundw
            case rel => exact ⟨k + 1, by omega, by go_num, Lib.hid (HST.out HF.out), Lib.hid (below_drewN HW.out _)⟩
            case measure => simp [intOf]; omega
          · have h3' : (q1 == 2) = false := by simpa using h3
            have h3n : (q1 != 2) = true := by simpa using h3
            by_cases h4 : q2 = 2
            · have h4' : (q2 == 2) = true := by simpa using h4
              have h4n : (q2 != 2) = false := by simpa using h4
              have HF := Lib.hid (show hb = false by rw [HHB.out, h1, h2, h3', h4']; rfl)
              go_wp2_with (fail)
              go_quiet (fail)
              go_wp2_with (fail)
              go_roundw
              case rel => exact ⟨k + 1, by omega, by go_num, Lib.hid (HST.out HF.out), Lib.hid (below_drewN HW.out _)⟩
              case measure => simp [intOf]; omega
            · have h4' : (q2 == 2) = false := by simpa using h4
              have h4n : (q2 != 2) = true := by simpa using h4
              have HF := Lib.hid (show hb = true by rw [HHB.out, h1, h2, h3', h4']; rfl)
              go_wp2_with (fail)
              go_quiet (fail)
              go_wp2_with (fail)
              go_ret
              exact ⟨rfl, HUP.out _ (below_drewN HW.out _)⟩
        · obtain rfl : k = u.length := by omega
          have k1 : decide ((u.length : Int) < (u.length : Int)) = false := by rw [decide_eq_false_iff_not]; omega
          have HNX : Hid (∀ i', i' < i + 1 → ∀ k, k < u.length → hitB (t.getD i' default) (u.getD k default) = false) := Lib.hid (fun i' hi' => by
            by_cases e : i' = i
            · rw [e]; exact HK.out
            · exact HN.out i' (by omega))
          go_wp2_with (fail)
          go_roundw
          case rel => exact ⟨i + 1, by omega, by go_num, HNX, HW⟩
          case measure => simp [intOf]; omega
    · obtain rfl : i = t.length := by omega
      have i1 : decide ((t.length : Int) < (t.length : Int)) = false := by rw [decide_eq_false_iff_not]; omega
      have HEQ := Lib.hid (HWH2.out HN.out)
      rw [HEQ.out] at HSB
      go_wp2_with (fail)
      refine (HSB.out _ A5 c5 B5 d5 (HRA4.out _ HW.out) (HRB4.out _ HW.out)).mono ?_
      rintro e w5 ⟨rfl, hw⟩
      go_wp2_with (fail)
      go_ret
      exact ⟨rfl, HUP.out _ (HW.out.trans (hw.mono HW.out.size))⟩

open Go.ChangeShapes Go.WideShapes Go.ChangeAt in
set_option maxRecDepth 100000 in
/-- What the walk gives, for every argument. -/
theorem ArchSame_contract (H : Type) (enc : TypeId × Value → H) (W : World) (base : Nat) (args : Array Value) (ds gs : List (DataW H)) (before : List MemPlace)
    (hval : ∀ (j : Nat) t v, Tryz.f6.params[j]? = some t → args[j]? = some v → Value.okWide Tryz.prog W .any base t v)
    (hW : DataW.Whole enc Tryz.prog Tryz.f6.params.toList Rows.archSameSpec.vars false W args.toList ds gs before) (hL : laidMetH Tryz.prog Rows.archSameRow.laid W) (hS : W.ShapedOpen Tryz.prog) :
    Calls Tryz.prog 6 args W fun e W' => ∃ v, e = .returned v ∧ Rows.archSameSpec.post enc Tryz.prog Tryz.f6 false true false false W args v W' := by
  have hW' := hW
  obtain ⟨p, q, hA0, hV, rfl, hfz, hnd⟩ := hW
  have hA : DataW.TrodAll enc Tryz.prog W 0 (fun _ => true) true Tryz.f6.params.toList args.toList ds p := hA0
  rw [Tryz.params6] at hA hval
  obtain ⟨v0, vs0, d0, ds0, p0, q0, hargs, rfl, rfl, h0, r0⟩ := trodAll_cons hA
  obtain ⟨v1, vs1, d1, ds1, p1, q1, rfl, rfl, rfl, h1, r1⟩ := trodAll_cons r0
  obtain ⟨rfl, rfl, rfl⟩ := trodAll_nil r1
  obtain rfl : args = #[v0, v1] := by cases args; simp_all
  obtain ⟨rfl, rfl⟩ := trodVars_none hV
  obtain ⟨A0, c0, x0, rfl, hc0, hm0, ks0, kd0, kw0⟩ := open_nodesW (hval 0 23 v0 rfl rfl) h0
  unfold maxLen at hm0
  obtain ⟨A1, c1, x1, rfl, hc1, hm1, ks1, kd1, kw1⟩ := open_nodesW (hval 1 23 v1 rfl rfl) h1
  unfold maxLen at hm1
  clear hA0
  obtain ⟨m, hm⟩ := laid_of hL hS
  refine (ArchSame_any x0 x1 A0 A1 c0 c1 m W hm ks0 ks1 hc0 hc1 (Nat.le_trans hc0 hm0) (Nat.le_trans hc1 hm1) (fun n hn => (kd0 n hn).2) (fun n hn => (kd1 n hn).2)).mono ?_
  exact fun e W' ⟨he, hb⟩ => ⟨_, he, law_post rfl hW' rfl (by kernel_rfl) Tryz.underlying4 (by kernel_rfl) laidOut hb⟩

open Go.ChangeShapes Go.WideShapes Go.ChangeAt in
theorem ArchSame_met (os : Os) : laidMet Tryz.prog Rows.archSameRow.laid ((laidWorld os).forCall (fun _ _ => 0) ⟨#[], #[.slice none 0 0, .slice none 0 0], []⟩).memory :=
  laidMet_of_run' 8 (by kernel_rfl) (by kernel_rfl)
open Go.ChangeShapes Go.WideShapes Go.ChangeAt in
theorem ArchSame_reads (os : Os) {H : Type} (enc : TypeId × Value → H) : ∃ places, DataW.whole enc Tryz.prog ((laidWorld os).forCall (fun _ _ => 0) ⟨#[], #[.slice none 0 0, .slice none 0 0], []⟩).memory Tryz.f6.params.toList Rows.archSameSpec.vars false #[.slice none 0 0, .slice none 0 0].toList 8 = some ([.nil, .nil], [], places) :=
  ⟨[], by kernel_rfl⟩

open Go.ChangeShapes Go.WideShapes Go.ChangeAt in
set_option maxRecDepth 100000 in
theorem ArchSame_lifted (os : Os) (started : os.Started) (H : Type) (enc : TypeId × Value → H) (F : Stop.Interp) :
    ReturnsInHanded {} Tryz.checked os 6 .any ((OpenSpec.ofChange Rows.archSameSpec).preRow enc Tryz.prog Tryz.f6 Rows.archSameRow.domain false Rows.archSameRow.laid) (((OpenSpec.ofChange Rows.archSameSpec).at F).post enc Tryz.prog Tryz.f6 false true false false) := by
  obtain ⟨places, hx⟩ := ArchSame_reads os enc
  refine returnsInHanded_of_row (C := Tryz.checked) (s := OpenSpec.ofChange Rows.archSameSpec) own started (by kernel_rfl) Tryz.func6
    (witness_row_at (enc := enc) (C := Tryz.checked) false (laidWorld os) #[.slice none 0 0, .slice none 0 0] rfl (by kernel_rfl) (by kernel_rfl) (by kernel_rfl)
      (OpenSpec.preRow_of_cond 8 hx (by kernel_rfl) (fun k hk => by cases hk) (by kernel_rfl) (ArchSame_met os))) ?_
  intro W base args ds gs before hval hW _ hcond _ hL hS _
  exact ArchSame_contract H enc W base args ds gs before hval hW hL hS

theorem ArchSame_said : Rows.ArchSameSaid :=
  OpenClaim.holds_of_cond 6 Tryz.f6 rfl rfl rfl rfl rfl rfl rfl ⟨rfl, rfl, rfl, rfl, rfl⟩ rfl rfl rfl rfl rfl (by kernel_rfl) Tryz.func6 (by kernel_rfl)
    (of_decide_eq_true (by kernel_rfl)) (by unfold Func.isWrapper; first | (rw [if_pos (by decide +kernel)]; kernel_rfl) | (rw [if_neg (by decide +kernel)]; exact ⟨rfl, rfl⟩))
    (fun os started H enc _ F => by rw [OpenClaim.pre_eq_preRow]; exact ArchSame_lifted os started H enc F)

theorem ArchSame_holds : Rows.ArchSameCardSaid :=
  Claim7.holds_tied_plain_at .later [] _ _ _ _ ArchSame_said (fun _ h => by cases h) (by kernel_rfl) (fun _ h => by cases h) archSame_row_tie rfl ⟨rfl, rfl⟩ (by kernel_rfl) rfl
    (card_plain (f0 := 6) (fn0 := Tryz.f6) (by kernel_rfl) Tryz.func6 (by kernel_rfl) (by kernel_rfl)) (by kernel_rfl)
end Go.Proofs.YtjajoiahgfafgaaGreatDoor
end
