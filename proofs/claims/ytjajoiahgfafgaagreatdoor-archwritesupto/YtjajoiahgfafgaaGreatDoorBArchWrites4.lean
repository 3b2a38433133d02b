/- Texts joined: Tree3, Tree4, Loads, LoadAt, Tree5, RuneRef. -/
import Derived.Test.YtjajoiahgfafgaaGreatDoorBArchWrites3
import Derived.Test.YtjajoiahgfafgaaGreatDoorBCodeBaseC1
import Derived.Deep.MidRow
import Derived.Test.YtjajoiahgfafgaaGreatDoorBArchWrites2
import Derived.Test.YtjajoiahgfafgaaGreatDoorBArchWrites1
import Derived.IntWalk
set_option linter.unusedSimpArgs false
set_option linter.unusedVariables false

/- slices.BinarySearchFunc over nodes. -/
section
set_option linter.unusedVariables false
namespace Go.Proofs.YtjajoiahgfafgaaGreatDoor
open Go.RowKit Plain

/-- a node of a row -/
theorem nodes_at {w : World} {A : Option Addr} {t : List Nd} (h : IsRows w 4 A (t.map ndV)) {i : Nat} (hi : i < t.length) : ∃ ad, A = some ad ∧ ∀ j u, (ndV (t.getD i default))[j]? = some u → w.cell? (ad.add (i * 4 + j)) = some u := by
  obtain ⟨ad, e, hc⟩ := h i (by simpa using hi)
  refine ⟨ad, e, fun j u hu => hc j u ?_⟩
  rw [List.getElem_map]
  rw [List.getD_eq_getElem?_getD, List.getElem?_eq_getElem hi, Option.getD_some] at hu
  exact hu
/-- its four cells, as the walk loads them -/
theorem node_cells {w : World} {A : Option Addr} {t : List Nd} (h : IsRows w 4 A (t.map ndV)) {i : Nat} (hi : i < t.length) : ∃ ad, A = some ad ∧ w.cell? (ad.add (i * 4)) = some (.string ⟨(t.getD i default).path.toArray⟩) ∧
    w.cell? ⟨(ad.add (i * 4)).block, (ad.add (i * 4)).off + 1, none⟩ = some (.int .i64 (t.getD i default).kind) ∧ w.cell? ⟨(ad.add (i * 4)).block, (ad.add (i * 4)).off + 2, none⟩ = some (.string ⟨(t.getD i default).data.toArray⟩) ∧
    w.cell? ⟨(ad.add (i * 4)).block, (ad.add (i * 4)).off + 3, none⟩ = some (.int .i64 (t.getD i default).mode) := by
  obtain ⟨ad, e, hc⟩ := nodes_at h hi
  have key : ∀ j u, j ≠ 0 → (ndV (t.getD i default))[j]? = some u → w.cell? ⟨(ad.add (i * 4)).block, (ad.add (i * 4)).off + j, none⟩ = some u := fun j u hj hu => by
    have := hc j u hu
    rw [← add_of_add] at this
    conv at this => lhs; rw [Addr.add, if_neg hj]
    exact this
  exact ⟨ad, e, hc 0 _ rfl, key 1 _ (by omega) rfl, key 2 _ (by omega) rfl, key 3 _ (by omega) rfl⟩
/-- what is told of a search -/
def Found (t : List Nd) (s : List UInt8) (lo : Nat) (b : Bool) : Prop := lo ≤ t.length ∧ (∀ j, j < lo → orderM (t.getD j default).path s < 0) ∧ (∀ j, lo ≤ j → j < t.length → 0 ≤ orderM (t.getD j default).path s) ∧ b = (decide (lo < t.length) && (orderM (t.getD lo default).path s == 0))

set_option maxHeartbeats 2000000 in
set_option maxRecDepth 100000 in
theorem search_any (t : List Nd) (A : Option Addr) (c : Nat) (s : List UInt8) (w : World) (hR : IsRows w 4 A (t.map ndV)) (hs : Srt t) (ht : t.length ≤ 1000) (hp : ∀ n ∈ t, n.path.length ≤ 9223372036854775807) (hs2 : s.length ≤ 9223372036854775807) :
    Calls Tryz.prog 127 #[.slice A t.length c, .string ⟨s.toArray⟩, .func (.func 128) #[] #[]] w fun e w' => ∃ lo b, e = .returned (.tuple #[.int .i64 (lo : Nat), .bool b]) ∧ Found t s lo b ∧ Below w.heap.size w w' := by
  have HPL := Lib.hid (fun (n : Nd) (h : n ∈ t) W => place1_any n s W (hp n h) hs2)
  have HR := Lib.hid hR
  have HS := Lib.hid hs
  clear hR hs hp
  go_enter Tryz.func127, Tryz.ntmps127
  go_wp2_with (fail)
  go_loopw [9, 10] (fun t9 t10 W => ∃ lo hi : Nat, lo ≤ hi ∧ hi ≤ t.length ∧ t9 = .int .i64 (lo : Nat) ∧ t10 = .int .i64 (hi : Nat) ∧ Hid (∀ j, j < lo → orderM (t.getD j default).path s < 0) ∧ Hid (∀ j, hi ≤ j → j < t.length → 0 ≤ orderM (t.getD j default).path s) ∧ Hid (Below w.heap.size w W)) (fun t9 t10 _ => (intOf t10).toNat - (intOf t9).toNat)
  case atStart => exact ⟨0, t.length, by omega, by omega, rfl, rfl, Lib.hid (fun j h => by omega), Lib.hid (fun j h1 h2 => by omega), Lib.hid (Below.refl _ _)⟩
  case round =>
    obtain ⟨lo, hi, hle, hhi, rfl, rfl, H1, H2, HB⟩ := hrel
    by_cases hlt : lo < hi
    · have hlt' : (lo : Int) < hi := by omega
      have h0 : (0 : Int) ≤ lo := by omega
      obtain ⟨h, hh⟩ : ∃ h : Nat, h = (lo + hi) / 2 := ⟨_, rfl⟩
      have hh1 : lo ≤ h ∧ h < hi := by omega
      obtain ⟨ad, rfl, c0, c1, c2, c3⟩ := node_cells (HR.out.below HB.out) (i := h) (by omega)
      have hmem : t.getD h default ∈ t := by rw [List.getD_eq_getElem?_getD, List.getElem?_eq_getElem (by omega : h < t.length), Option.getD_some]; exact List.getElem_mem _
      have HP1 := Lib.hid (HPL.out _ hmem)
      obtain ⟨nd, HND⟩ : ∃ nd : Nd, Hid (nd = t.getD h default) := ⟨_, Lib.hid rfl⟩
      rw [← HND.out] at HP1 c0 c1 c2 c3
      have he2 : ((lo : Int) + hi) / 2 = (h : Int) := by omega
      have hh0 : (0 : Int) ≤ h := by omega
      have hhl : (h : Int) < t.length := by omega
      have HHH := Lib.hid (And.intro hh hh1)
      clear hh hmem
      by_cases hneg : orderM nd.path s < 0
      · have hd : decide (orderM nd.path s < 0) = true := decide_eq_true hneg
        go_wp2_with (go_at_call 128; refine (HP1.out _).mono ?_; rintro e w1 ⟨rfl, hb1⟩)
        go_roundw
        case rel => exact ⟨h + 1, hi, by omega, hhi, by go_num, rfl, Lib.hid (search_less HS.out (by omega) (by rw [← HND.out]; exact hneg)), H2, Lib.hid (HB.out.trans (hb1.mono HB.out.size))⟩
        case measure => simp [intOf]; omega
      · have hd : decide (orderM nd.path s < 0) = false := decide_eq_false hneg
        go_wp2_with (go_at_call 128; refine (HP1.out _).mono ?_; rintro e w1 ⟨rfl, hb1⟩)
        go_roundw
        case rel => exact ⟨lo, h, by omega, by omega, rfl, rfl, H1, Lib.hid (search_more HS.out (by rw [← HND.out]; omega)), Lib.hid (HB.out.trans (hb1.mono HB.out.size))⟩
        case measure => simp [intOf]; omega
    · have he : lo = hi := by omega
      subst he
      by_cases hin : lo < t.length
      · have hin' : (lo : Int) < t.length := by omega
        have h0 : (0 : Int) ≤ lo := by omega
        obtain ⟨ad, rfl, c0, c1, c2, c3⟩ := node_cells (HR.out.below HB.out) (i := lo) hin
        have hmem : t.getD lo default ∈ t := by rw [List.getD_eq_getElem?_getD, List.getElem?_eq_getElem hin, Option.getD_some]; exact List.getElem_mem _
        have HP1 := Lib.hid (HPL.out _ hmem)
        have HFD : Hid (Found t s lo (decide (lo < t.length) && (orderM (t.getD lo default).path s == 0))) := Lib.hid ⟨hhi, H1.out, H2.out, rfl⟩
        rw [decide_eq_true hin, Bool.true_and] at HFD
        obtain ⟨nd, HND⟩ : ∃ nd : Nd, Hid (nd = t.getD lo default) := ⟨_, Lib.hid rfl⟩
        rw [← HND.out] at HP1 HFD c0 c1 c2 c3
        clear hmem
        go_wp2_with (go_at_call 128; refine (HP1.out _).mono ?_; rintro e w1 ⟨rfl, hb1⟩)
        go_ret2
        exact ⟨lo, (orderM nd.path s == 0), rfl, HFD.out, HB.out.trans (hb1.mono HB.out.size)⟩
      · have hin' : ¬ (lo : Int) < t.length := by omega
        have HFD : Hid (Found t s lo (decide (lo < t.length) && (orderM (t.getD lo default).path s == 0))) := Lib.hid ⟨hhi, H1.out, H2.out, rfl⟩
        rw [decide_eq_false hin, Bool.false_and] at HFD
        go_wp2_with (fail)
        refine bodyPost_ret (by simp [results, Tryz.results127, go_sem]; rfl) rfl ?_
        first
          | exact ⟨lo, false, rfl, HFD.out, HB.out⟩
          | exact ⟨lo, .inl ⟨rfl, HFD.out, HB.out⟩⟩
          | exact .inl ⟨lo, rfl, HFD.out, HB.out⟩
end Go.Proofs.YtjajoiahgfafgaaGreatDoor
end

/- tree's place and dir. -/
section
set_option linter.unusedVariables false
namespace Go.Proofs.YtjajoiahgfafgaaGreatDoor
open Go.RowKit Plain

def FoundV (t : List Nd) (s : List UInt8) (v : Value) : Prop := ∃ (lo : Nat) (b : Bool), v = .tuple #[.int .i64 (lo : Nat), .bool b] ∧ Found t s lo b

set_option maxHeartbeats 1000000 in
set_option maxRecDepth 100000 in
theorem place_any (t : List Nd) (A : Option Addr) (c : Nat) (s : List UInt8) (w : World) (hR : IsRows w 4 A (t.map ndV)) (hs : Srt t) (ht : t.length ≤ 1000) (hp : ∀ n ∈ t, n.path.length ≤ 9223372036854775807) (hs2 : s.length ≤ 9223372036854775807) :
    Calls Tryz.prog 98 #[.slice A t.length c, .string ⟨s.toArray⟩] w fun e w' => ∃ v, e = .returned v ∧ FoundV t s v ∧ Below w.heap.size w w' := by
  have HS := Lib.hid (search_any t A c s w hR hs ht hp hs2)
  clear hR hs hp
  go_enter Tryz.func98, Tryz.ntmps98
  go_wp2_with (go_at_call 127; refine HS.out.mono ?_; rintro e w1 ⟨lo, b, rfl, hf, hb⟩; have HF := Lib.hid hf; have HB := Lib.hid hb; clear hf hb)
  go_ret2
  exact ⟨_, rfl, ⟨lo, b, rfl, HF.out⟩, HB.out⟩

set_option maxHeartbeats 1000000 in
set_option maxRecDepth 100000 in
theorem dir_any (t : List Nd) (A : Option Addr) (c : Nat) (s : List UInt8) (w : World) (hR : IsRows w 4 A (t.map ndV)) (hs : Srt t) (ht : t.length ≤ 1000) (hp : ∀ n ∈ t, n.path.length ≤ 9223372036854775807) (hs2 : s.length ≤ 9223372036854775807) :
    Calls Tryz.prog 74 #[.slice A t.length c, .string ⟨s.toArray⟩] w (Ret w (.bool (dirN t s))) := by
  have HPL := Lib.hid (place_any t A c s w hR hs ht hp hs2)
  have HR := Lib.hid hR
  have HSR := Lib.hid hs
  clear hR hs hp
  go_enter Tryz.func74, Tryz.ntmps74
  cases s with
  | nil =>
    go_wp2_with (go_at_call 98; refine HPL.out.mono ?_; rintro e w1 ⟨v, rfl, ⟨lo, b, rfl, hf⟩, hb⟩; have HF := Lib.hid hf; have HB := Lib.hid hb; clear hf hb)
    go_ret
    exact ⟨rfl, HB.out⟩
  | cons x r =>
    go_upto_region 2 with (go_at_call 98; refine HPL.out.mono ?_; rintro e w1 ⟨v, rfl, ⟨lo, b, rfl, hf⟩, hb⟩; have HF := Lib.hid hf; have HB := Lib.hid hb; clear hf hb)
    have hfind := search_end (s := x :: r) HSR.out HF.out.2.1 HF.out.2.2.1
    have hb := HF.out.2.2.2
    cases b with
    | false =>
      have hn : findN t (x :: r) = none := by
        rw [hfind, if_neg]
        rintro ⟨h1, h2⟩
        rw [decide_eq_true h1, h2] at hb
        cases hb
      have hd : dirN t (x :: r) = false := by unfold dirN; rw [hn]; rfl
      have HD := Lib.hid hd
      clear hfind hb hd
      go_wp2_with (fail)
      go_ret
      exact ⟨by rw [HD.out]; first | rfl | simp, HB.out⟩
    | true =>
      have hb' := hb.symm
      rw [Bool.and_eq_true, decide_eq_true_eq, beq_iff_eq] at hb'
      have hlt : lo < t.length := hb'.1
      rw [if_pos hb'] at hfind
      obtain ⟨ad, rfl, c0, c1, c2, c3⟩ := node_cells (HR.out.below HB.out) (i := lo) hlt
      have hd : dirN t (x :: r) = ((t.getD lo default).kind == 2) := by unfold dirN; rw [hfind]; rfl
      have HD := Lib.hid hd
      have hlt' : (lo : Int) < t.length := by omega
      have h0 : (0 : Int) ≤ lo := by omega
      clear hfind hb hb' hd
      generalize t.getD lo default = nd at *
      go_wp2_with (fail)
      go_ret
      exact ⟨by rw [HD.out]; first | rfl | simp, HB.out⟩
end Go.Proofs.YtjajoiahgfafgaaGreatDoor
end

/- Loads of a struct, and of a cell, in a region that draws its order. -/
section
namespace Go.Proofs.YtjajoiahgfafgaaGreatDoor
open Go.RowKit

/-- A load of a whole struct, and of one cell, in a region that draws its order, whose calls keep old memory. -/
theorem quiet_load_row {P : Program} {w : World} {o : Oper} {a : Act} {K : Act → Prop} (ty : TypeId) (x : Operand) (ho : o.op = .load ty x)
    (g : Nat) (hx : a.eval x = .pointer (some ⟨g, 0, none⟩)) (t : TypeId) (cs : Array Value) (fr : Nat × Nat) (d : TypeDesc) (hg : w.heap[g]? = some (.cells cs t fr))
    (hu : P.underlying ty = some d) (hd : (match d with | .struct _ | .array _ _ => true | _ => false) = true) (hi : (P.info? ty).map (·.size) = some cs.size)
    (h : K (a.put o.dst (.agg cs))) : o.quiet P a (fun W => Below w.heap.size w W) K := by
  refine ⟨.agg cs, fun W hW => ?_, h⟩
  have hgW : W.heap[g]? = some (.cells cs t fr) := by rw [hW.block g (Array.getElem?_eq_some_iff.1 hg).1]; exact hg
  unfold Oper.quietAt execOp
  simp only [ho, hx, Instr.loadAt, Instr.sureAddr, Sem.run_bind, Sem.run_pure, Result.andThen_ok, run_loadVar_row W g t ty cs fr d hgW hu hd hi]
  exact ⟨rfl, rfl⟩
theorem quiet_load_cell {P : Program} {w : World} {o : Oper} {a : Act} {K : Act → Prop} (ty : TypeId) (x : Operand) (ho : o.op = .load ty x)
    (p : Addr) (hx : a.eval x = .pointer (some p)) (v : Value) (d : TypeDesc) (hc : w.cell? p = some v)
    (hu : P.underlying ty = some d) (hd : (match d with | .struct _ | .array _ _ => true | _ => false) = false)
    (h : K (a.put o.dst v)) : o.quiet P a (fun W => Below w.heap.size w W) K := by
  refine ⟨v, fun W hW => ?_, h⟩
  have hcW : W.cell? p = some v := by rw [hW.cell (World.block_lt_of_cell? _ _ hc)]; exact hc
  have hagg : (isAgg ty).run P W = .ok false W := by
    unfold isAgg
    rw [Sem.run_bind, run_underlying hu W]
    cases d <;> simp_all
  unfold Oper.quietAt execOp
  simp only [ho, hx, Instr.loadAt, Instr.sureAddr, Sem.run_bind, Sem.run_pure, Result.andThen_ok, loadVar, hagg]
  simp [go_sem, hcW, Oper.quietUpon]
/-- A load of a part of a row. -/
theorem quiet_load_mid {P : Program} {w : World} {o : Oper} {a : Act} {K : Act → Prop} (ty : TypeId) (x : Operand) (ho : o.op = .load ty x)
    (b f : Nat) (hx : a.eval x = .pointer (some ⟨b, f, none⟩)) (cs : List Value) (d : TypeDesc) (hc : w.rangeAt b f cs) (hb : b < w.heap.size)
    (hu : P.underlying ty = some d) (hd : d.isRow = true) (hi : (P.info? ty).map (·.size) = some cs.length)
    (h : K (a.put o.dst (.agg cs.toArray))) : o.quiet P a (fun W => Below w.heap.size w W) K := by
  refine ⟨.agg cs.toArray, fun W hW => ?_, h⟩
  have hcW : W.rangeAt b f cs := fun j v hv => by rw [hW.cell hb]; exact hc j v hv
  unfold Oper.quietAt execOp
  simp only [ho, hx, Instr.loadAt, Instr.sureAddr, Sem.run_bind, Sem.run_pure, Result.andThen_ok, run_loadVar_mid W b f ty cs d hcW hu hd hi]
  exact ⟨rfl, rfl⟩
end Go.Proofs.YtjajoiahgfafgaaGreatDoor
end

/- A load of a struct at whatever address, in a region that draws its order. -/
section
set_option linter.unusedVariables false
namespace Go.Proofs.YtjajoiahgfafgaaGreatDoor
open Go.RowKit

theorem run_loadVar_at {P : Program} (w : World) (a : Addr) (ty : TypeId) (cs : List Value) (d : TypeDesc) (hc : ∀ j v, cs[j]? = some v → w.cell? (a.add j) = some v)
    (hu : P.underlying ty = some d) (hd : d.isRow = true) (hi : (P.info? ty).map (·.size) = some cs.length) :
    (loadVar ty a).run P w = .ok (.agg cs.toArray) w := by
  have hl : (loadCells a cs.length).run P w = .ok cs.toArray w := run_loadCells_list (P := P) w a cs hc
  cases hq : P.info? ty with
  | none => simp [hq] at hi
  | some i =>
    have hs : i.size = cs.length := by simpa [hq] using hi
    have hagg : (isAgg ty).run P w = .ok true w := by
      unfold isAgg
      rw [Sem.run_bind, run_underlying hu w]
      cases d <;> simp_all
    simp [loadVar, Sem.run_bind, hagg, sizeOf, typeInfo, hq, hs, hl]
theorem quiet_load_at {P : Program} {w : World} {o : Oper} {a : Act} {K : Act → Prop} (ty : TypeId) (x : Operand) (ho : o.op = .load ty x)
    (p : Addr) (hx : a.eval x = .pointer (some p)) (cs : List Value) (d : TypeDesc) (hc : ∀ j v, cs[j]? = some v → w.cell? (p.add j) = some v)
    (hu : P.underlying ty = some d) (hd : d.isRow = true) (hi : (P.info? ty).map (·.size) = some cs.length)
    (h : K (a.put o.dst (.agg cs.toArray))) : o.quiet P a (fun W => Below w.heap.size w W) K := by
  refine ⟨.agg cs.toArray, fun W hW => ?_, h⟩
  have hcW : ∀ j v, cs[j]? = some v → W.cell? (p.add j) = some v := fun j v hv => (hW.cell (World.block_lt_of_cell? _ _ (hc j v hv))).trans (hc j v hv)
  unfold Oper.quietAt execOp
  simp only [ho, hx, Instr.loadAt, Instr.sureAddr, Sem.run_bind, Sem.run_pure, Result.andThen_ok, run_loadVar_at W p ty cs d hcW hu hd hi]
  exact ⟨rfl, rfl⟩
theorem pair_cells {w : World} {p : Addr} {u v : Value} (h0 : w.cell? p = some u) (h1 : w.cell? ⟨p.block, p.off + 1, none⟩ = some v) : ∀ j x, [u, v][j]? = some x → w.cell? (p.add j) = some x := by
  intro j x hx
  match j, hx with
  | 0, hx => simp at hx; rw [← hx]; exact h0
  | 1, hx => simp at hx; rw [← hx]; exact h1
  | j + 2, hx => simp at hx
end Go.Proofs.YtjajoiahgfafgaaGreatDoor
end

/- tree.Check. -/
section
set_option linter.unusedVariables false
namespace Go.Proofs.YtjajoiahgfafgaaGreatDoor
open Go.RowKit Plain

theorem rows_take {w : World} {A : Option Addr} {t : List Nd} (h : IsRows w 4 A (t.map ndV)) (i : Nat) : IsRows w 4 A ((t.take i).map ndV) := by
  intro k hk
  have hk' : k < i ∧ k < t.length := by simp only [List.length_map, List.length_take] at hk; omega
  obtain ⟨ad, e, hc⟩ := h k (by simpa using hk'.2)
  refine ⟨ad, e, fun j u hu => hc j u ?_⟩
  simpa using hu
theorem beforeN_take {t : List Nd} {i j : Nat} (h : j < i) : beforeN (t.take i) j = beforeN t j := by
  cases j with
  | zero => rfl
  | succ j => show decide _ = decide _; rw [getD_take h, getD_take (by omega)]
theorem srt_ahead {t : List Nd} {i : Nat} (h : ∀ j, j < i → nodeOK (t.take j) t j = true) : Srt (t.take i) := by
  refine srt_of fun j hj => ?_
  have hj' : j < i := by rw [List.length_take] at hj; omega
  rw [beforeN_take hj']
  have := h j hj'
  unfold nodeOK at this
  simp only [Bool.and_eq_true] at this
  exact this.1.2
theorem mem_getD {t : List Nd} {i : Nat} (h : i < t.length) : t.getD i default ∈ t := by
  rw [List.getD_eq_getElem?_getD, List.getElem?_eq_getElem h, Option.getD_some]; exact List.getElem_mem _
theorem join_dropLast_le : ∀ l : List (List UInt8), (joinS l.dropLast).length ≤ (joinS l).length
  | [] => Nat.le_refl _
  | [x] => by simp [joinS]
  | x :: y :: r => by
    have ih := join_dropLast_le (y :: r)
    rw [List.dropLast_cons_of_ne_nil (by simp)]
    cases h : (y :: r).dropLast with
    | nil => simp only [joinS, List.length_append]; omega
    | cons a b =>
      rw [h] at ih
      simp only [joinS, List.length_append, List.length_cons] at ih ⊢
      omega
theorem parentM_le (s : List UInt8) : (parentM s).length ≤ s.length := by
  unfold parentM
  split
  · have := join_dropLast_le (parts s)
    rwa [join_parts] at this
  · simp
theorem info_node : (Tryz.prog.info? 41).map (·.size) = some 4 := by kernel_rfl
def okE (b : Bool) : Int := if b then 0 else 60

set_option maxHeartbeats 4000000 in
set_option maxRecDepth 100000 in
theorem tcheck_any (t : List Nd) (A : Option Addr) (c : Nat) (m : Int) (w : World) (hL : Laid w m) (hR : IsRows w 4 A (t.map ndV)) (hc : t.length ≤ c) (hlen : t.length ≤ 9223372036854775807) (hp : ∀ n ∈ t, n.path.length ≤ 9223372036854775807 ∧ n.data.length ≤ 9223372036854775807) :
    Calls Tryz.prog 44 #[.slice A t.length c] w (Ret w (.int .i64 (okE (treeOK t)))) := by
  by_cases hbig : 1000 < t.length
  · have hb : decide ((1000 : Int) < (t.length : Int)) = true := by rw [decide_eq_true_eq]; omega
    have HE := Lib.hid (show treeOK t = false from treeOK_long hbig)
    rw [HE.out]
    clear hbig
    go_enter Tryz.func44, Tryz.ntmps44
    go_wp2_with (fail)
    go_ret
    exact ⟨rfl, Below.refl _ _⟩
  have hsm : t.length ≤ 1000 := by omega
  have hb : decide ((1000 : Int) < (t.length : Int)) = false := by rw [decide_eq_false_iff_not]; omega
  have HRES : Hid (restOK (fun i => nodeOK (t.take i) t i) 0 t.length = treeOK t) := Lib.hid (treeOK_own hsm).symm
  generalize treeOK t = res at *
  have HR := Lib.hid (fun W (h : Below w.heap.size w W) => hR.below h)
  have HPATH := Lib.hid (fun s W (h : Below w.heap.size w W) => Path_any s W (hL.below h).tabs)
  have HPAR := Lib.hid (fun s W (h : Below w.heap.size w W) (hs : s.length ≤ 9223372036854775807) => Parent_any s W (hL.below h).tabs hs)
  have HDIR := Lib.hid (fun i s W (h : Below w.heap.size w W) (hi : i ≤ t.length) (hs : Srt (t.take i)) (hs2 : s.length ≤ 9223372036854775807) =>
    show Calls Tryz.prog 74 #[.slice A i c, .string ⟨s.toArray⟩] W (Ret W (.bool (dirN (t.take i) s))) by
      have := dir_any (t.take i) A c s W (rows_take (hR.below h) i) hs (by rw [List.length_take]; omega) (fun n hn => (hp n (List.mem_of_mem_take hn)).1) hs2
      rw [List.length_take, Nat.min_eq_left hi] at this
      exact this)
  have HP := Lib.hid hp
  have HSZ := Lib.hid info_node
  clear hR hL hp
  go_enter Tryz.func44, Tryz.ntmps44
  go_wp2_with (fail)
  go_loopw [10] (fun t10 W => ∃ (i : Nat), i ≤ t.length ∧ t10 = .int .i64 i ∧ Hid (restOK (fun i => nodeOK (t.take i) t i) i t.length = res) ∧ Hid (∀ j, j < i → nodeOK (t.take j) t j = true) ∧ Hid (Below w.heap.size w W)) (fun t10 _ => t.length - (intOf t10).toNat)
  case atStart => exact ⟨0, by omega, rfl, HRES, Lib.hid (fun j h => by omega), Lib.hid (Below.refl _ _)⟩
  case round =>
    clear HRES
    obtain ⟨i, hi, rfl, HE, HA, HB⟩ := hrel
    have i0 : (0 : Int) ≤ i := by omega
    have e1 : IntKind.i64.wrap ((i : Int) + 1) = (i : Int) + 1 := IntWalk.i64_in _ (by omega)
    by_cases hlt : i < t.length
    · have i1 : (i : Int) < t.length := by omega
      have i2 : (i : Int) ≤ c := by omega
      obtain ⟨ad, rfl, c0, c1, c2, c3⟩ := node_cells (HR.out _ HB.out) hlt
      have hpl := HP.out _ (mem_getD hlt)
      have hat := restOK_at (f := fun i => nodeOK (t.take i) t i) hlt
      rw [HE.out] at hat
      have HN : Hid (nodeOK (t.take i) t i = (pathOK (t.getD i default).path && rightN (t.getD i default) && beforeN t i && dirN (t.take i) (parentM (t.getD i default).path))) := Lib.hid rfl
      obtain ⟨nd, HND⟩ : ∃ nd : Nd, Hid (nd = t.getD i default) := ⟨_, Lib.hid rfl⟩
      rw [← HND.out] at HN hpl c0 c1 c2 c3
      have HPL := Lib.hid hpl
      have HAT := Lib.hid hat
      clear hat hpl
      obtain ⟨wb, hwb⟩ : ∃ wb, wr.alloc (Obj.cells #[Value.string ⟨nd.path.toArray⟩, Value.int .i64 nd.kind, .string ⟨nd.data.toArray⟩, .int .i64 nd.mode] 41) = wb := ⟨_, rfl⟩
      have HWB := Lib.hid hwb
      have HBA := Lib.hid (show Below w.heap.size w wb by rw [← hwb]; exact HB.out.alloc HB.out.size _)
      have HROW := Lib.hid (show wb.heap[wr.heap.size]? = some (.cells #[Value.string ⟨nd.path.toArray⟩, Value.int .i64 nd.kind, .string ⟨nd.data.toArray⟩, .int .i64 nd.mode] 41 (0, 0)) by rw [← hwb]; exact heap_alloc_new _ _)
      have HC0 := Lib.hid (show wb.cell? ⟨wr.heap.size, 0, none⟩ = some (.string ⟨nd.path.toArray⟩) by rw [← hwb]; simp [go_sem])
      have HRIGHT := Lib.hid (fun W => right_any nd W HPL.out.2)
      clear hwb
      go_upto_region 6 with (fail)
      rw [HWB.out]
      clear c0 c1 c2 c3
      cases hpa : pathOK nd.path with
      | false =>
        have HP1 := Lib.hid (fun W h => (hpa ▸ HPATH.out nd.path W h : Calls Tryz.prog 71 #[.string ⟨nd.path.toArray⟩] W (Ret W (.bool false))))
        have HRF := Lib.hid (show res = false by rw [HAT.out, HN.out, hpa]; rfl)
        clear hpa
        refine wp_region_below (by kernel_rfl) (by kernel_rfl) ?_
        repeat first
          | (go_big_quiet_want; refine quiet_load_cell 9 _ rfl _ rfl _ _ HC0.out Tryz.underlying9 rfl ?_; simp only [Act.put, List.setIfInBounds_toArray, List.set_cons_succ, List.set_cons_zero]; go_big_quiet_on)
          | go_big_quiet_step ((intro hW; go_at_call 71; exact Ret.quiet hW (HP1.out _ (HBA.out.trans (hW.mono HBA.out.size)))))
        refine wpQuiet_nil ?_
        intro W2 hW2
        go_wp2_with (fail)
        go_ret
        exact ⟨by rw [HRF.out]; rfl, HBA.out.trans (hW2.mono HBA.out.size)⟩
      | true =>
      have HP1 := Lib.hid (fun W h => (hpa ▸ HPATH.out nd.path W h : Calls Tryz.prog 71 #[.string ⟨nd.path.toArray⟩] W (Ret W (.bool true))))
      rw [hpa, Bool.true_and] at HN
      clear hpa
      cases hri : rightN nd with
      | false =>
        have HP2 := Lib.hid (fun W => (hri ▸ HRIGHT.out W : Calls Tryz.prog 72 #[.agg (ndV nd).toArray] W (Ret W (.bool false))))
        have HRF := Lib.hid (show res = false by rw [HAT.out, HN.out, hri]; rfl)
        clear hri
        refine wp_region_below (by kernel_rfl) (by kernel_rfl) ?_
        repeat first
          | (go_big_quiet_want; refine quiet_load_cell 9 _ rfl _ rfl _ _ HC0.out Tryz.underlying9 rfl ?_; simp only [Act.put, List.setIfInBounds_toArray, List.set_cons_succ, List.set_cons_zero]; go_big_quiet_on)
          | (go_big_quiet_want; refine quiet_load_row 41 _ rfl _ rfl _ _ _ _ HROW.out Tryz.underlying41 rfl HSZ.out ?_; simp only [Act.put, List.setIfInBounds_toArray, List.set_cons_succ, List.set_cons_zero]; go_big_quiet_on)
          | go_big_quiet_step ((intro hW; first | (go_at_call 71; exact Ret.quiet hW (HP1.out _ (HBA.out.trans (hW.mono HBA.out.size)))) | (go_at_call 72; exact Ret.quiet hW (HP2.out _))))
        refine wpQuiet_nil ?_
        intro W2 hW2
        go_wp2_with (fail)
        go_ret
        exact ⟨by rw [HRF.out]; rfl, HBA.out.trans (hW2.mono HBA.out.size)⟩
      | true =>
      have HP2 := Lib.hid (fun W => (hri ▸ HRIGHT.out W : Calls Tryz.prog 72 #[.agg (ndV nd).toArray] W (Ret W (.bool true))))
      rw [hri, Bool.true_and] at HN
      clear hri
      cases i with
      | zero =>
        have HSRT := Lib.hid (srt_ahead HA.out)
        have hpp : (parentM nd.path).length ≤ 9223372036854775807 := Nat.le_trans (parentM_le nd.path) HPL.out.1
        have HPP := Lib.hid hpp
        clear hpp
        cases hdi : dirN (t.take (0)) (parentM nd.path) with
        | false =>
          have HP5 := Lib.hid (fun W h => (hdi ▸ HDIR.out (0) (parentM nd.path) W h (by omega) HSRT.out HPP.out : Calls Tryz.prog 74 #[.slice (some ad) (0) c, .string ⟨(parentM nd.path).toArray⟩] W (Ret W (.bool false))))
          have HRF := Lib.hid (show res = false by rw [HAT.out, HN.out, show beforeN t 0 = true from rfl, Bool.true_and, hdi]; rfl)
          clear hdi
          refine wp_region_below (by kernel_rfl) (by kernel_rfl) ?_
          repeat first
            | (go_big_quiet_want; refine quiet_load_cell 9 _ rfl _ rfl _ _ HC0.out Tryz.underlying9 rfl ?_; simp only [Act.put, List.setIfInBounds_toArray, List.set_cons_succ, List.set_cons_zero]; go_big_quiet_on)
            | (go_big_quiet_want; refine quiet_load_row 41 _ rfl _ rfl _ _ _ _ HROW.out Tryz.underlying41 rfl HSZ.out ?_; simp only [Act.put, List.setIfInBounds_toArray, List.set_cons_succ, List.set_cons_zero]; go_big_quiet_on)
            | go_big_quiet_step ((intro hW; first | (go_at_call 71; exact Ret.quiet hW (HP1.out _ (HBA.out.trans (hW.mono HBA.out.size)))) | (go_at_call 72; exact Ret.quiet hW (HP2.out _)) | (go_at_call 75; exact Ret.quiet hW (HPAR.out nd.path _ (HBA.out.trans (hW.mono HBA.out.size)) HPL.out.1)) | (go_at_call 74; exact Ret.quiet hW (HP5.out _ (HBA.out.trans (hW.mono HBA.out.size))))))
          refine wpQuiet_nil ?_
          intro W2 hW2
          go_wp2_with (fail)
          go_ret
          exact ⟨by rw [HRF.out]; rfl, HBA.out.trans (hW2.mono HBA.out.size)⟩
        | true =>
          have HP5 := Lib.hid (fun W h => (hdi ▸ HDIR.out (0) (parentM nd.path) W h (by omega) HSRT.out HPP.out : Calls Tryz.prog 74 #[.slice (some ad) (0) c, .string ⟨(parentM nd.path).toArray⟩] W (Ret W (.bool true))))
          have HNT : nodeOK (t.take (0)) t (0) = true := by rw [HN.out, show beforeN t 0 = true from rfl, Bool.true_and, hdi]
          have HRF := Lib.hid (show restOK (fun i => nodeOK (t.take i) t i) (0 + 1) t.length = res by rw [HAT.out, HNT, Bool.true_and])
          have HAL := Lib.hid (show ∀ j, j < 0 + 1 → nodeOK (t.take j) t j = true from fun j hj => by
            by_cases e : j = 0
            · rw [e]; exact HNT
            · exact HA.out j (by omega))
          clear hdi HNT
          refine wp_region_below (by kernel_rfl) (by kernel_rfl) ?_
          repeat first
            | (go_big_quiet_want; refine quiet_load_cell 9 _ rfl _ rfl _ _ HC0.out Tryz.underlying9 rfl ?_; simp only [Act.put, List.setIfInBounds_toArray, List.set_cons_succ, List.set_cons_zero]; go_big_quiet_on)
            | (go_big_quiet_want; refine quiet_load_row 41 _ rfl _ rfl _ _ _ _ HROW.out Tryz.underlying41 rfl HSZ.out ?_; simp only [Act.put, List.setIfInBounds_toArray, List.set_cons_succ, List.set_cons_zero]; go_big_quiet_on)
            | go_big_quiet_step ((intro hW; first | (go_at_call 71; exact Ret.quiet hW (HP1.out _ (HBA.out.trans (hW.mono HBA.out.size)))) | (go_at_call 72; exact Ret.quiet hW (HP2.out _)) | (go_at_call 75; exact Ret.quiet hW (HPAR.out nd.path _ (HBA.out.trans (hW.mono HBA.out.size)) HPL.out.1)) | (go_at_call 74; exact Ret.quiet hW (HP5.out _ (HBA.out.trans (hW.mono HBA.out.size))))))
          refine wpQuiet_nil ?_
          intro W2 hW2
          go_wp2_with (fail)
          go_roundw
          case rel => exact ⟨0 + 1, by omega, by first | rfl | go_num, HRF, HAL, Lib.hid (HBA.out.trans (hW2.mono HBA.out.size))⟩
          case measure => simp [intOf]; omega
      | succ k =>
        obtain ⟨ad2, e2, d0, d1, d2, d3⟩ := node_cells (HR.out _ HBA.out) (i := k) (by omega)
        obtain rfl : ad = ad2 := by injection e2
        have hpl2 := HP.out _ (mem_getD (show k < t.length by omega))
        have HBF : Hid (beforeN t (k + 1) = decide (orderM (t.getD k default).path nd.path < 0)) := Lib.hid (by rw [HND.out]; rfl)
        obtain ⟨md, HMD⟩ : ∃ nd : Nd, Hid (nd = t.getD k default) := ⟨_, Lib.hid rfl⟩
        rw [← HMD.out] at d0 d1 d2 d3 hpl2 HBF
        have HPL2 := Lib.hid hpl2
        have HD0 := Lib.hid d0
        clear d0 d1 d2 d3 hpl2 e2
        have k0 : (0 : Int) ≤ k := by omega
        have k1 : (k : Int) < t.length := by omega
        cases hor : decide (orderM md.path nd.path < 0) with
        | false =>
          have hoi : orderM md.path nd.path ≥ 0 := by have := of_decide_eq_false hor; omega
          have hoi2 : decide ((0 : Int) ≤ orderM md.path nd.path) = true := decide_eq_true hoi
          have HP3 := Lib.hid (fun W => Order_any md.path nd.path W HPL2.out.1 HPL.out.1)
          have HRF := Lib.hid (show res = false by rw [HAT.out, HN.out, HBF.out, hor]; rfl)
          clear hor
          generalize orderM md.path nd.path = o at *
          refine wp_region_below (by kernel_rfl) (by kernel_rfl) ?_
          repeat first
            | (go_big_quiet_want; refine quiet_load_cell 9 _ rfl _ rfl _ _ HC0.out Tryz.underlying9 rfl ?_; simp only [Act.put, List.setIfInBounds_toArray, List.set_cons_succ, List.set_cons_zero]; go_big_quiet_on)
            | (go_big_quiet_want; refine quiet_load_cell 9 _ rfl _ rfl _ _ HD0.out Tryz.underlying9 rfl ?_; simp only [Act.put, List.setIfInBounds_toArray, List.set_cons_succ, List.set_cons_zero]; go_big_quiet_on)
            | (go_big_quiet_want; refine quiet_load_row 41 _ rfl _ rfl _ _ _ _ HROW.out Tryz.underlying41 rfl HSZ.out ?_; simp only [Act.put, List.setIfInBounds_toArray, List.set_cons_succ, List.set_cons_zero]; go_big_quiet_on)
            | go_big_quiet_step ((intro hW; first | (go_at_call 71; exact Ret.quiet hW (HP1.out _ (HBA.out.trans (hW.mono HBA.out.size)))) | (go_at_call 72; exact Ret.quiet hW (HP2.out _)) | (go_at_call 73; exact Ret.quiet hW (HP3.out _))))
          refine wpQuiet_nil ?_
          intro W2 hW2
          go_wp2_with (fail)
          go_ret
          exact ⟨by rw [HRF.out]; rfl, HBA.out.trans (hW2.mono HBA.out.size)⟩
        | true =>
        have hoi2 : decide ((0 : Int) ≤ orderM md.path nd.path) = false := by have := of_decide_eq_true hor; rw [decide_eq_false_iff_not]; omega
        have HP3 := Lib.hid (fun W => Order_any md.path nd.path W HPL2.out.1 HPL.out.1)
        rw [hor] at HBF
        clear hor
        generalize orderM md.path nd.path = o at *
        have HSRT := Lib.hid (srt_ahead HA.out)
        have hpp : (parentM nd.path).length ≤ 9223372036854775807 := Nat.le_trans (parentM_le nd.path) HPL.out.1
        have HPP := Lib.hid hpp
        clear hpp
        cases hdi : dirN (t.take (k + 1)) (parentM nd.path) with
        | false =>
          have HP5 := Lib.hid (fun W h => (hdi ▸ HDIR.out (k + 1) (parentM nd.path) W h (by omega) HSRT.out HPP.out : Calls Tryz.prog 74 #[.slice (some ad) (k + 1) c, .string ⟨(parentM nd.path).toArray⟩] W (Ret W (.bool false))))
          have HRF := Lib.hid (show res = false by rw [HAT.out, HN.out, HBF.out, Bool.true_and, hdi]; rfl)
          clear hdi
          refine wp_region_below (by kernel_rfl) (by kernel_rfl) ?_
          repeat first
            | (go_big_quiet_want; refine quiet_load_cell 9 _ rfl _ rfl _ _ HC0.out Tryz.underlying9 rfl ?_; simp only [Act.put, List.setIfInBounds_toArray, List.set_cons_succ, List.set_cons_zero]; go_big_quiet_on)
            | (go_big_quiet_want; refine quiet_load_cell 9 _ rfl _ rfl _ _ HD0.out Tryz.underlying9 rfl ?_; simp only [Act.put, List.setIfInBounds_toArray, List.set_cons_succ, List.set_cons_zero]; go_big_quiet_on)
            | (go_big_quiet_want; refine quiet_load_row 41 _ rfl _ rfl _ _ _ _ HROW.out Tryz.underlying41 rfl HSZ.out ?_; simp only [Act.put, List.setIfInBounds_toArray, List.set_cons_succ, List.set_cons_zero]; go_big_quiet_on)
            | go_big_quiet_step ((intro hW; first | (go_at_call 71; exact Ret.quiet hW (HP1.out _ (HBA.out.trans (hW.mono HBA.out.size)))) | (go_at_call 72; exact Ret.quiet hW (HP2.out _)) | (go_at_call 73; exact Ret.quiet hW (HP3.out _)) | (go_at_call 75; exact Ret.quiet hW (HPAR.out nd.path _ (HBA.out.trans (hW.mono HBA.out.size)) HPL.out.1)) | (go_at_call 74; exact Ret.quiet hW (HP5.out _ (HBA.out.trans (hW.mono HBA.out.size))))))
          refine wpQuiet_nil ?_
          intro W2 hW2
          go_wp2_with (fail)
          go_ret
          exact ⟨by rw [HRF.out]; rfl, HBA.out.trans (hW2.mono HBA.out.size)⟩
        | true =>
          have HP5 := Lib.hid (fun W h => (hdi ▸ HDIR.out (k + 1) (parentM nd.path) W h (by omega) HSRT.out HPP.out : Calls Tryz.prog 74 #[.slice (some ad) (k + 1) c, .string ⟨(parentM nd.path).toArray⟩] W (Ret W (.bool true))))
          have HNT : nodeOK (t.take (k + 1)) t (k + 1) = true := by rw [HN.out, HBF.out, Bool.true_and, hdi]
          have HRF := Lib.hid (show restOK (fun i => nodeOK (t.take i) t i) (k + 1 + 1) t.length = res by rw [HAT.out, HNT, Bool.true_and])
          have HAL := Lib.hid (show ∀ j, j < k + 1 + 1 → nodeOK (t.take j) t j = true from fun j hj => by
            by_cases e : j = k + 1
            · rw [e]; exact HNT
            · exact HA.out j (by omega))
          clear hdi HNT
          refine wp_region_below (by kernel_rfl) (by kernel_rfl) ?_
          repeat first
            | (go_big_quiet_want; refine quiet_load_cell 9 _ rfl _ rfl _ _ HC0.out Tryz.underlying9 rfl ?_; simp only [Act.put, List.setIfInBounds_toArray, List.set_cons_succ, List.set_cons_zero]; go_big_quiet_on)
            | (go_big_quiet_want; refine quiet_load_cell 9 _ rfl _ rfl _ _ HD0.out Tryz.underlying9 rfl ?_; simp only [Act.put, List.setIfInBounds_toArray, List.set_cons_succ, List.set_cons_zero]; go_big_quiet_on)
            | (go_big_quiet_want; refine quiet_load_row 41 _ rfl _ rfl _ _ _ _ HROW.out Tryz.underlying41 rfl HSZ.out ?_; simp only [Act.put, List.setIfInBounds_toArray, List.set_cons_succ, List.set_cons_zero]; go_big_quiet_on)
            | go_big_quiet_step ((intro hW; first | (go_at_call 71; exact Ret.quiet hW (HP1.out _ (HBA.out.trans (hW.mono HBA.out.size)))) | (go_at_call 72; exact Ret.quiet hW (HP2.out _)) | (go_at_call 73; exact Ret.quiet hW (HP3.out _)) | (go_at_call 75; exact Ret.quiet hW (HPAR.out nd.path _ (HBA.out.trans (hW.mono HBA.out.size)) HPL.out.1)) | (go_at_call 74; exact Ret.quiet hW (HP5.out _ (HBA.out.trans (hW.mono HBA.out.size))))))
          refine wpQuiet_nil ?_
          intro W2 hW2
          go_wp2_with (fail)
          go_roundw
          case rel => exact ⟨k + 1 + 1, by omega, by first | rfl | go_num, HRF, HAL, Lib.hid (HBA.out.trans (hW2.mono HBA.out.size))⟩
          case measure => simp [intOf]; omega
    · have i1 : ¬ (i : Int) < t.length := by omega
      obtain rfl : i = t.length := by omega
      have HE2 := Lib.hid (show res = true by rw [← HE.out, restOK_end])
      go_wp2_with (fail)
      go_ret
      exact ⟨by rw [HE2.out]; rfl, HB.out⟩
end Go.Proofs.YtjajoiahgfafgaaGreatDoor
end

/- The document's reader of a rune. -/
section
set_option linter.unusedVariables false
namespace Go.Proofs.YtjajoiahgfafgaaGreatDoor
open Go.RowKit Plain

theorem u8c (x : UInt8) : (0 : Int) ≤ x.toNat ∧ (x.toNat : Int) ≤ 255 := by have := x.toNat_lt; omega

set_option maxHeartbeats 2000000 in
set_option maxRecDepth 100000 in
theorem rune_2 (l : List UInt8) (k : Nat) (w : World) (hk : k < l.length) (h63 : l.length ≤ 4294967296) (hlo : 194 ≤ (l[k]).toNat) (hhi : (l[k]).toNat ≤ 223) :
    Calls Tryz.prog 149 #[.string ⟨l.toArray⟩, .int .i64 k] w (Ret w (.int .i64 (runeW (l.drop k)))) := by
  have HW := Lib.hid (runeW_2 l k hk hlo hhi)
  have HV := Lib.hid (vAt_le l k ((l[k]).toNat - 192) (by omega))
  obtain ⟨v0, hv0⟩ : ∃ v0, (l[k]).toNat - 192 = v0 := ⟨_, rfl⟩
  have hv0' : ((l[k]).toNat : Int) - 192 = (v0 : Int) := by omega
  rw [hv0] at HW HV
  have HV0 := Lib.hid hv0'
  clear hv0 hv0'
  generalize hb : l[k] = b at *
  have hg0 : (ByteArray.mk l.toArray)[k]'(by simpa [ByteArray.size] using hk) = b := by rw [ba_get]; exact hb
  have i0 : (0 : Int) ≤ k := by omega
  have i1 : (k : Int) < l.length := by omega
  have b1 : (194 : Int) ≤ b.toNat := by omega
  have b2 : (b.toNat : Int) ≤ 223 := by omega
  clear hb
  by_cases hlen : l.length < k + 2
  · have HR := Lib.hid (HW.out.1 hlen)
    have hd : decide ((l.length : Int) < (k : Int) + 2) = true := by simp; omega
    clear hlen
    go_enter Tryz.func149, Tryz.ntmps149
    go_wp2_with (fail)
    go_ret
    exact ⟨by rw [HR.out]; rfl, Below.refl _ _⟩
  · have hd : decide ((l.length : Int) < (k : Int) + 2) = false := by simp; omega
    go_enter Tryz.func149, Tryz.ntmps149
    go_wp2_with (fail)
    go_loopw [8, 9] (fun t8 t9 W => ∃ i : Nat, 1 ≤ i ∧ i ≤ 2 ∧ t9 = .int .i64 i ∧ t8 = .int .i64 (vAt l k v0 i) ∧ Hid (∀ j, 1 ≤ j → j < i → 128 ≤ (l.getD (k + j) 0).toNat ∧ (l.getD (k + j) 0).toNat ≤ 191) ∧ W = w) (fun _ t9 _ => 8 - (intOf t9).toNat)
    case atStart => exact ⟨1, by omega, by omega, rfl, by rw [vAt_one, ← HV0.out], Lib.hid (fun j h1 h2 => by omega), rfl⟩
    case round =>
      obtain ⟨i, hi1, hi2, rfl, rfl, HC, rfl⟩ := hrel
      have hvi := HV.out i hi1 (by omega)
      by_cases hin : i < 2
      · have hg : l.getD (k + i) 0 = l[k + i]'(by omega) := by simp [List.getD, show k + i < l.length by omega]
        have HG := Lib.hid hg
        have hn1 : ((k : Int) + i).toNat = k + i := by omega
        have hp1 : (0 : Int) ≤ (k : Int) + i := by omega
        have hp2 : (k : Int) + i < l.length := by omega
        have hw1 : IntKind.i64.wrap ((k : Int) + i) = (k : Int) + i := IntWalk.i64_in _ (by omega)
        clear hg
        generalize hcc : l[k + i]'(by omega) = c at *
        have hg1 : (ByteArray.mk l.toArray)[k + i]'(by simp [ByteArray.size]; omega) = c := by rw [ba_get]; exact hcc
        clear hcc
        have hcb := u8c c
        by_cases hc : 128 ≤ c.toNat ∧ c.toNat ≤ 191
        · obtain ⟨hc1, hc2⟩ := hc
          have hc1' : (128 : Int) ≤ c.toNat := by omega
          have hc2' : (c.toNat : Int) ≤ 191 := by omega
          have hs : ((vAt l k v0 i : Nat) : Int) * 64 + c.toNat - 128 = ((vAt l k v0 (i + 1) : Nat) : Int) := by rw [vAt_succ l k v0 i hi1, HG.out]; omega
          have HS := Lib.hid hs
          have HGV : Hid (vAt l k v0 (i + 1) = vAt l k v0 (i + 1)) := Lib.hid rfl
          clear hs HGV
          generalize vAt l k v0 i = v at *
          go_wp2_with (fail)
          go_roundw
          case rel => exact ⟨i + 1, by omega, by omega, by go_num, by rw [← HS.out], Lib.hid (fun j h1 h2 => by
            by_cases e : j = i
            · subst e; rw [HG.out]; exact ⟨hc1, hc2⟩
            · exact HC.out j h1 (by omega)), by first | trivial | rfl⟩
          case measure => simp [intOf]; omega
        · have hz := HW.out.2.1 i hi1 hin (by omega) (by rw [HG.out]; exact hc)
          have HZ := Lib.hid hz
          clear hz
          by_cases hc1 : c.toNat < 128
          · have hc1' : (c.toNat : Int) < 128 := by omega
            clear hc
            generalize vAt l k v0 i = v at *
            go_wp2_with (fail)
            go_ret
            exact ⟨by rw [HZ.out]; rfl, Below.refl _ _⟩
          · have hc1' : (128 : Int) ≤ c.toNat := by omega
            have hc2' : (191 : Int) < c.toNat := by omega
            clear hc
            generalize vAt l k v0 i = v at *
            go_wp2_with (fail)
            go_ret
            exact ⟨by rw [HZ.out]; rfl, Below.refl _ _⟩
      · obtain rfl : i = 2 := by omega
        have HZ := Lib.hid (HW.out.2.2 (by omega) HC.out)
        generalize vAt l k v0 2 = v at *
        have v63 : (v : Int) ≤ 16777215 := by omega
        by_cases q1 : v < 128
        · have HF := Lib.hid (show finW 2 128 v = 0 by unfold finW; rw [if_pos (by omega)])
          have q1' : (v : Int) < 128 := by omega
          go_wp2_with (fail)
          go_ret
          exact ⟨by rw [HZ.out, HF.out]; rfl, Below.refl _ _⟩
        · have q1' : (128 : Int) ≤ v := by omega
          by_cases q2 : 1114111 < v
          · have HF := Lib.hid (show finW 2 128 v = 0 by unfold finW; rw [if_pos (by omega)])
            have q2' : (1114111 : Int) < v := by omega
            go_wp2_with (fail)
            go_ret
            exact ⟨by rw [HZ.out, HF.out]; rfl, Below.refl _ _⟩
          · have q2' : (v : Int) ≤ 1114111 := by omega
            by_cases q3 : 55296 ≤ v
            · have q3' : (55296 : Int) ≤ v := by omega
              by_cases q4 : v ≤ 57343
              · have HF := Lib.hid (show finW 2 128 v = 0 by unfold finW; rw [if_pos (by omega)])
                have q4' : (v : Int) ≤ 57343 := by omega
                go_wp2_with (fail)
                go_ret
                exact ⟨by rw [HZ.out, HF.out]; rfl, Below.refl _ _⟩
              · have HF := Lib.hid (show finW 2 128 v = 2 by unfold finW; rw [if_neg (by omega)])
                have q4' : (57343 : Int) < v := by omega
                go_wp2_with (fail)
                go_ret
                exact ⟨by rw [HZ.out, HF.out]; rfl, Below.refl _ _⟩
            · have HF := Lib.hid (show finW 2 128 v = 2 by unfold finW; rw [if_neg (by omega)])
              have q3' : decide ((55296 : Int) ≤ (v : Int)) = false := by simp; omega
              clear q1 q2 q3
              go_wp2_with (fail)
              go_ret
              exact ⟨by rw [HZ.out, HF.out]; rfl, Below.refl _ _⟩

set_option maxHeartbeats 2000000 in
set_option maxRecDepth 100000 in
theorem rune_3 (l : List UInt8) (k : Nat) (w : World) (hk : k < l.length) (h63 : l.length ≤ 4294967296) (hlo : 224 ≤ (l[k]).toNat) (hhi : (l[k]).toNat ≤ 239) :
    Calls Tryz.prog 149 #[.string ⟨l.toArray⟩, .int .i64 k] w (Ret w (.int .i64 (runeW (l.drop k)))) := by
  have HW := Lib.hid (runeW_3 l k hk hlo hhi)
  have HV := Lib.hid (vAt_le l k ((l[k]).toNat - 224) (by omega))
  obtain ⟨v0, hv0⟩ : ∃ v0, (l[k]).toNat - 224 = v0 := ⟨_, rfl⟩
  have hv0' : ((l[k]).toNat : Int) - 224 = (v0 : Int) := by omega
  rw [hv0] at HW HV
  have HV0 := Lib.hid hv0'
  clear hv0 hv0'
  generalize hb : l[k] = b at *
  have hg0 : (ByteArray.mk l.toArray)[k]'(by simpa [ByteArray.size] using hk) = b := by rw [ba_get]; exact hb
  have i0 : (0 : Int) ≤ k := by omega
  have i1 : (k : Int) < l.length := by omega
  have b1 : (224 : Int) ≤ b.toNat := by omega
  have b2 : (b.toNat : Int) ≤ 239 := by omega
  clear hb
  by_cases hlen : l.length < k + 3
  · have HR := Lib.hid (HW.out.1 hlen)
    have hd : decide ((l.length : Int) < (k : Int) + 3) = true := by simp; omega
    clear hlen
    go_enter Tryz.func149, Tryz.ntmps149
    go_wp2_with (fail)
    go_ret
    exact ⟨by rw [HR.out]; rfl, Below.refl _ _⟩
  · have hd : decide ((l.length : Int) < (k : Int) + 3) = false := by simp; omega
    go_enter Tryz.func149, Tryz.ntmps149
    go_wp2_with (fail)
    go_loopw [8, 9] (fun t8 t9 W => ∃ i : Nat, 1 ≤ i ∧ i ≤ 3 ∧ t9 = .int .i64 i ∧ t8 = .int .i64 (vAt l k v0 i) ∧ Hid (∀ j, 1 ≤ j → j < i → 128 ≤ (l.getD (k + j) 0).toNat ∧ (l.getD (k + j) 0).toNat ≤ 191) ∧ W = w) (fun _ t9 _ => 8 - (intOf t9).toNat)
    case atStart => exact ⟨1, by omega, by omega, rfl, by rw [vAt_one, ← HV0.out], Lib.hid (fun j h1 h2 => by omega), rfl⟩
    case round =>
      obtain ⟨i, hi1, hi2, rfl, rfl, HC, rfl⟩ := hrel
      have hvi := HV.out i hi1 (by omega)
      by_cases hin : i < 3
      · have hg : l.getD (k + i) 0 = l[k + i]'(by omega) := by simp [List.getD, show k + i < l.length by omega]
        have HG := Lib.hid hg
        have hn1 : ((k : Int) + i).toNat = k + i := by omega
        have hp1 : (0 : Int) ≤ (k : Int) + i := by omega
        have hp2 : (k : Int) + i < l.length := by omega
        have hw1 : IntKind.i64.wrap ((k : Int) + i) = (k : Int) + i := IntWalk.i64_in _ (by omega)
        clear hg
        generalize hcc : l[k + i]'(by omega) = c at *
        have hg1 : (ByteArray.mk l.toArray)[k + i]'(by simp [ByteArray.size]; omega) = c := by rw [ba_get]; exact hcc
        clear hcc
        have hcb := u8c c
        by_cases hc : 128 ≤ c.toNat ∧ c.toNat ≤ 191
        · obtain ⟨hc1, hc2⟩ := hc
          have hc1' : (128 : Int) ≤ c.toNat := by omega
          have hc2' : (c.toNat : Int) ≤ 191 := by omega
          have hs : ((vAt l k v0 i : Nat) : Int) * 64 + c.toNat - 128 = ((vAt l k v0 (i + 1) : Nat) : Int) := by rw [vAt_succ l k v0 i hi1, HG.out]; omega
          have HS := Lib.hid hs
          have HGV : Hid (vAt l k v0 (i + 1) = vAt l k v0 (i + 1)) := Lib.hid rfl
          clear hs HGV
          generalize vAt l k v0 i = v at *
          go_wp2_with (fail)
          go_roundw
          case rel => exact ⟨i + 1, by omega, by omega, by go_num, by rw [← HS.out], Lib.hid (fun j h1 h2 => by
            by_cases e : j = i
            · subst e; rw [HG.out]; exact ⟨hc1, hc2⟩
            · exact HC.out j h1 (by omega)), by first | trivial | rfl⟩
          case measure => simp [intOf]; omega
        · have hz := HW.out.2.1 i hi1 hin (by omega) (by rw [HG.out]; exact hc)
          have HZ := Lib.hid hz
          clear hz
          by_cases hc1 : c.toNat < 128
          · have hc1' : (c.toNat : Int) < 128 := by omega
            clear hc
            generalize vAt l k v0 i = v at *
            go_wp2_with (fail)
            go_ret
            exact ⟨by rw [HZ.out]; rfl, Below.refl _ _⟩
          · have hc1' : (128 : Int) ≤ c.toNat := by omega
            have hc2' : (191 : Int) < c.toNat := by omega
            clear hc
            generalize vAt l k v0 i = v at *
            go_wp2_with (fail)
            go_ret
            exact ⟨by rw [HZ.out]; rfl, Below.refl _ _⟩
      · obtain rfl : i = 3 := by omega
        have HZ := Lib.hid (HW.out.2.2 (by omega) HC.out)
        generalize vAt l k v0 3 = v at *
        have v63 : (v : Int) ≤ 16777215 := by omega
        by_cases q1 : v < 2048
        · have HF := Lib.hid (show finW 3 2048 v = 0 by unfold finW; rw [if_pos (by omega)])
          have q1' : (v : Int) < 2048 := by omega
          go_wp2_with (fail)
          go_ret
          exact ⟨by rw [HZ.out, HF.out]; rfl, Below.refl _ _⟩
        · have q1' : (2048 : Int) ≤ v := by omega
          by_cases q2 : 1114111 < v
          · have HF := Lib.hid (show finW 3 2048 v = 0 by unfold finW; rw [if_pos (by omega)])
            have q2' : (1114111 : Int) < v := by omega
            go_wp2_with (fail)
            go_ret
            exact ⟨by rw [HZ.out, HF.out]; rfl, Below.refl _ _⟩
          · have q2' : (v : Int) ≤ 1114111 := by omega
            by_cases q3 : 55296 ≤ v
            · have q3' : (55296 : Int) ≤ v := by omega
              by_cases q4 : v ≤ 57343
              · have HF := Lib.hid (show finW 3 2048 v = 0 by unfold finW; rw [if_pos (by omega)])
                have q4' : (v : Int) ≤ 57343 := by omega
                go_wp2_with (fail)
                go_ret
                exact ⟨by rw [HZ.out, HF.out]; rfl, Below.refl _ _⟩
              · have HF := Lib.hid (show finW 3 2048 v = 3 by unfold finW; rw [if_neg (by omega)])
                have q4' : (57343 : Int) < v := by omega
                go_wp2_with (fail)
                go_ret
                exact ⟨by rw [HZ.out, HF.out]; rfl, Below.refl _ _⟩
            · have HF := Lib.hid (show finW 3 2048 v = 3 by unfold finW; rw [if_neg (by omega)])
              have q3' : decide ((55296 : Int) ≤ (v : Int)) = false := by simp; omega
              clear q1 q2 q3
              go_wp2_with (fail)
              go_ret
              exact ⟨by rw [HZ.out, HF.out]; rfl, Below.refl _ _⟩

set_option maxHeartbeats 2000000 in
set_option maxRecDepth 100000 in
theorem rune_4 (l : List UInt8) (k : Nat) (w : World) (hk : k < l.length) (h63 : l.length ≤ 4294967296) (hlo : 240 ≤ (l[k]).toNat) (hhi : (l[k]).toNat ≤ 244) :
    Calls Tryz.prog 149 #[.string ⟨l.toArray⟩, .int .i64 k] w (Ret w (.int .i64 (runeW (l.drop k)))) := by
  have HW := Lib.hid (runeW_4 l k hk hlo hhi)
  have HV := Lib.hid (vAt_le l k ((l[k]).toNat - 240) (by omega))
  obtain ⟨v0, hv0⟩ : ∃ v0, (l[k]).toNat - 240 = v0 := ⟨_, rfl⟩
  have hv0' : ((l[k]).toNat : Int) - 240 = (v0 : Int) := by omega
  rw [hv0] at HW HV
  have HV0 := Lib.hid hv0'
  clear hv0 hv0'
  generalize hb : l[k] = b at *
  have hg0 : (ByteArray.mk l.toArray)[k]'(by simpa [ByteArray.size] using hk) = b := by rw [ba_get]; exact hb
  have i0 : (0 : Int) ≤ k := by omega
  have i1 : (k : Int) < l.length := by omega
  have b1 : (240 : Int) ≤ b.toNat := by omega
  have b2 : (b.toNat : Int) ≤ 244 := by omega
  clear hb
  by_cases hlen : l.length < k + 4
  · have HR := Lib.hid (HW.out.1 hlen)
    have hd : decide ((l.length : Int) < (k : Int) + 4) = true := by simp; omega
    clear hlen
    go_enter Tryz.func149, Tryz.ntmps149
    go_wp2_with (fail)
    go_ret
    exact ⟨by rw [HR.out]; rfl, Below.refl _ _⟩
  · have hd : decide ((l.length : Int) < (k : Int) + 4) = false := by simp; omega
    go_enter Tryz.func149, Tryz.ntmps149
    go_wp2_with (fail)
    go_loopw [8, 9] (fun t8 t9 W => ∃ i : Nat, 1 ≤ i ∧ i ≤ 4 ∧ t9 = .int .i64 i ∧ t8 = .int .i64 (vAt l k v0 i) ∧ Hid (∀ j, 1 ≤ j → j < i → 128 ≤ (l.getD (k + j) 0).toNat ∧ (l.getD (k + j) 0).toNat ≤ 191) ∧ W = w) (fun _ t9 _ => 8 - (intOf t9).toNat)
    case atStart => exact ⟨1, by omega, by omega, rfl, by rw [vAt_one, ← HV0.out], Lib.hid (fun j h1 h2 => by omega), rfl⟩
    case round =>
      obtain ⟨i, hi1, hi2, rfl, rfl, HC, rfl⟩ := hrel
      have hvi := HV.out i hi1 (by omega)
      by_cases hin : i < 4
      · have hg : l.getD (k + i) 0 = l[k + i]'(by omega) := by simp [List.getD, show k + i < l.length by omega]
        have HG := Lib.hid hg
        have hn1 : ((k : Int) + i).toNat = k + i := by omega
        have hp1 : (0 : Int) ≤ (k : Int) + i := by omega
        have hp2 : (k : Int) + i < l.length := by omega
        have hw1 : IntKind.i64.wrap ((k : Int) + i) = (k : Int) + i := IntWalk.i64_in _ (by omega)
        clear hg
        generalize hcc : l[k + i]'(by omega) = c at *
        have hg1 : (ByteArray.mk l.toArray)[k + i]'(by simp [ByteArray.size]; omega) = c := by rw [ba_get]; exact hcc
        clear hcc
        have hcb := u8c c
        by_cases hc : 128 ≤ c.toNat ∧ c.toNat ≤ 191
        · obtain ⟨hc1, hc2⟩ := hc
          have hc1' : (128 : Int) ≤ c.toNat := by omega
          have hc2' : (c.toNat : Int) ≤ 191 := by omega
          have hs : ((vAt l k v0 i : Nat) : Int) * 64 + c.toNat - 128 = ((vAt l k v0 (i + 1) : Nat) : Int) := by rw [vAt_succ l k v0 i hi1, HG.out]; omega
          have HS := Lib.hid hs
          have HGV : Hid (vAt l k v0 (i + 1) = vAt l k v0 (i + 1)) := Lib.hid rfl
          clear hs HGV
          generalize vAt l k v0 i = v at *
          go_wp2_with (fail)
          go_roundw
          case rel => exact ⟨i + 1, by omega, by omega, by go_num, by rw [← HS.out], Lib.hid (fun j h1 h2 => by
            by_cases e : j = i
            · subst e; rw [HG.out]; exact ⟨hc1, hc2⟩
            · exact HC.out j h1 (by omega)), by first | trivial | rfl⟩
          case measure => simp [intOf]; omega
        · have hz := HW.out.2.1 i hi1 hin (by omega) (by rw [HG.out]; exact hc)
          have HZ := Lib.hid hz
          clear hz
          by_cases hc1 : c.toNat < 128
          · have hc1' : (c.toNat : Int) < 128 := by omega
            clear hc
            generalize vAt l k v0 i = v at *
            go_wp2_with (fail)
            go_ret
            exact ⟨by rw [HZ.out]; rfl, Below.refl _ _⟩
          · have hc1' : (128 : Int) ≤ c.toNat := by omega
            have hc2' : (191 : Int) < c.toNat := by omega
            clear hc
            generalize vAt l k v0 i = v at *
            go_wp2_with (fail)
            go_ret
            exact ⟨by rw [HZ.out]; rfl, Below.refl _ _⟩
      · obtain rfl : i = 4 := by omega
        have HZ := Lib.hid (HW.out.2.2 (by omega) HC.out)
        generalize vAt l k v0 4 = v at *
        have v63 : (v : Int) ≤ 16777215 := by omega
        by_cases q1 : v < 65536
        · have HF := Lib.hid (show finW 4 65536 v = 0 by unfold finW; rw [if_pos (by omega)])
          have q1' : (v : Int) < 65536 := by omega
          go_wp2_with (fail)
          go_ret
          exact ⟨by rw [HZ.out, HF.out]; rfl, Below.refl _ _⟩
        · have q1' : (65536 : Int) ≤ v := by omega
          by_cases q2 : 1114111 < v
          · have HF := Lib.hid (show finW 4 65536 v = 0 by unfold finW; rw [if_pos (by omega)])
            have q2' : (1114111 : Int) < v := by omega
            go_wp2_with (fail)
            go_ret
            exact ⟨by rw [HZ.out, HF.out]; rfl, Below.refl _ _⟩
          · have q2' : (v : Int) ≤ 1114111 := by omega
            by_cases q3 : 55296 ≤ v
            · have q3' : (55296 : Int) ≤ v := by omega
              by_cases q4 : v ≤ 57343
              · have HF := Lib.hid (show finW 4 65536 v = 0 by unfold finW; rw [if_pos (by omega)])
                have q4' : (v : Int) ≤ 57343 := by omega
                go_wp2_with (fail)
                go_ret
                exact ⟨by rw [HZ.out, HF.out]; rfl, Below.refl _ _⟩
              · have HF := Lib.hid (show finW 4 65536 v = 4 by unfold finW; rw [if_neg (by omega)])
                have q4' : (57343 : Int) < v := by omega
                go_wp2_with (fail)
                go_ret
                exact ⟨by rw [HZ.out, HF.out]; rfl, Below.refl _ _⟩
            · have HF := Lib.hid (show finW 4 65536 v = 4 by unfold finW; rw [if_neg (by omega)])
              have q3' : decide ((55296 : Int) ≤ (v : Int)) = false := by simp; omega
              clear q1 q2 q3
              go_wp2_with (fail)
              go_ret
              exact ⟨by rw [HZ.out, HF.out]; rfl, Below.refl _ _⟩

set_option maxRecDepth 100000 in
theorem rune_asc (l : List UInt8) (k : Nat) (w : World) (hk : k < l.length) (h63 : l.length ≤ 4294967296) (hhi : (l[k]).toNat < 128) :
    Calls Tryz.prog 149 #[.string ⟨l.toArray⟩, .int .i64 k] w (Ret w (.int .i64 (runeW (l.drop k)))) := by
  have HR := Lib.hid (runeW_asc l k (by simpa [List.getD, hk] using hhi))
  generalize hb : l[k] = b at *
  have hg0 : (ByteArray.mk l.toArray)[k]'(by simpa [ByteArray.size] using hk) = b := by rw [ba_get]; exact hb
  have i0 : (0 : Int) ≤ k := by omega
  have i1 : (k : Int) < l.length := by omega
  have b0 := u8c b
  have b2 : (b.toNat : Int) < 128 := by omega
  clear hb
  go_enter Tryz.func149, Tryz.ntmps149
  go_wp2_with (fail)
  go_ret
  exact ⟨by rw [HR.out]; rfl, Below.refl _ _⟩
set_option maxRecDepth 100000 in
theorem rune_bad1 (l : List UInt8) (k : Nat) (w : World) (hk : k < l.length) (h63 : l.length ≤ 4294967296) (hlo : 128 ≤ (l[k]).toNat) (hhi : (l[k]).toNat < 194) :
    Calls Tryz.prog 149 #[.string ⟨l.toArray⟩, .int .i64 k] w (Ret w (.int .i64 (runeW (l.drop k)))) := by
  have HR := Lib.hid (runeW_bad l k (by simp [List.getD, hk]; omega))
  generalize hb : l[k] = b at *
  have hg0 : (ByteArray.mk l.toArray)[k]'(by simpa [ByteArray.size] using hk) = b := by rw [ba_get]; exact hb
  have i0 : (0 : Int) ≤ k := by omega
  have i1 : (k : Int) < l.length := by omega
  have b1 : (128 : Int) ≤ b.toNat := by omega
  have b2 : (b.toNat : Int) < 194 := by omega
  clear hb
  go_enter Tryz.func149, Tryz.ntmps149
  go_wp2_with (fail)
  go_ret
  exact ⟨by rw [HR.out]; rfl, Below.refl _ _⟩
set_option maxRecDepth 100000 in
theorem rune_bad2 (l : List UInt8) (k : Nat) (w : World) (hk : k < l.length) (h63 : l.length ≤ 4294967296) (hlo : 245 ≤ (l[k]).toNat) :
    Calls Tryz.prog 149 #[.string ⟨l.toArray⟩, .int .i64 k] w (Ret w (.int .i64 (runeW (l.drop k)))) := by
  have HR := Lib.hid (runeW_bad l k (by simp [List.getD, hk]; omega))
  generalize hb : l[k] = b at *
  have hg0 : (ByteArray.mk l.toArray)[k]'(by simpa [ByteArray.size] using hk) = b := by rw [ba_get]; exact hb
  have i0 : (0 : Int) ≤ k := by omega
  have i1 : (k : Int) < l.length := by omega
  have b1 : (245 : Int) ≤ b.toNat := by omega
  have b2 := u8c b
  clear hb
  go_enter Tryz.func149, Tryz.ntmps149
  go_wp2_with (fail)
  go_ret
  exact ⟨by rw [HR.out]; rfl, Below.refl _ _⟩
theorem rune_any (l : List UInt8) (k : Nat) (w : World) (hk : k < l.length) (h63 : l.length ≤ 4294967296) :
    Calls Tryz.prog 149 #[.string ⟨l.toArray⟩, .int .i64 k] w (Ret w (.int .i64 (runeW (l.drop k)))) := by
  by_cases h1 : (l[k]).toNat < 128
  · exact rune_asc l k w hk h63 h1
  by_cases h2 : (l[k]).toNat < 194
  · exact rune_bad1 l k w hk h63 (by omega) h2
  by_cases h3 : (l[k]).toNat ≤ 223
  · exact rune_2 l k w hk h63 (by omega) h3
  by_cases h4 : (l[k]).toNat ≤ 239
  · exact rune_3 l k w hk h63 (by omega) h4
  by_cases h5 : (l[k]).toNat ≤ 244
  · exact rune_4 l k w hk h63 (by omega) h5
  exact rune_bad2 l k w hk h63 (by omega)

theorem Valid_ref (l : List UInt8) (w : World) (h63 : l.length ≤ 4294967296) :
    Calls Tryz.prog 134 #[.string ⟨l.toArray⟩] w (Ret w (.bool (Lib.validD l))) := by
  have hw0 := Lib.hid (Below.refl w.heap.size w)
  go_enter Tryz.func134, Tryz.ntmps134
  go_wp2_with (fail)
  go_loopw [3] (fun t3 W => ∃ k : Nat, k ≤ l.length ∧ t3 = .int .i64 k ∧ Hid (Below w.heap.size w W) ∧ Hid (Lib.validD l = Lib.validD (l.drop k))) (fun t3 _ => l.length - (intOf t3).toNat)
  case atStart => exact ⟨0, by omega, rfl, hw0, Lib.hid (by rw [List.drop_zero])⟩
  case round =>
    obtain ⟨k, hk, rfl, HB, HV⟩ := hrel
    have i0 : (0 : Int) ≤ k := by omega
    by_cases hlt : k < l.length
    · have i1 : (k : Int) < l.length := by omega
      have HC := Lib.hid (rune_any l k wr hlt h63)
      have hstep := HV.out
      rw [validD_rune l k hlt] at hstep
      have hle := runeW_le l k hlt
      generalize runeW (l.drop k) = n at *
      have HST := Lib.hid hstep
      clear hstep HV
      by_cases hn : n = 0
      · subst hn
        go_wp2_with (fail)
        refine HC.out.mono ?_
        rintro e w1 ⟨rfl, hw1⟩
        go_wp2_with (fail)
        go_ret
        exact ⟨by rw [HST.out]; rfl, HB.out.trans (hw1.mono HB.out.size)⟩
      · have i2 : ((n : Int) == 0) = false := by simp; omega
        go_wp2_with (fail)
        refine HC.out.mono ?_
        rintro e w1 ⟨rfl, hw1⟩
        have HB1 := Lib.hid (HB.out.trans (hw1.mono HB.out.size))
        clear hw1
        go_wp2_with (fail)
        go_roundw
        case rel => exact ⟨k + n, by omega, by go_num, HB1, Lib.hid (by rw [HST.out, if_neg hn])⟩
        case measure => simp [intOf]; omega
    · obtain rfl : k = l.length := by omega
      have hv := HV.out
      rw [List.drop_length] at hv
      have HV' := Lib.hid hv
      clear hv HV
      go_wp2_with (fail)
      go_ret
      exact ⟨by rw [HV'.out]; rfl, HB.out⟩
end Go.Proofs.YtjajoiahgfafgaaGreatDoor
end
