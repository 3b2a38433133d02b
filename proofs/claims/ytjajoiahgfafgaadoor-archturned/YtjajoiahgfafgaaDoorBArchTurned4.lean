/- Texts joined: Tree4, Loads, LoadAt, Tree5, Tree6, PlainHex, PlainSha. -/
import Derived.Test.YtjajoiahgfafgaaDoorBArchTurned3
import Derived.Test.YtjajoiahgfafgaaDoorBCodeBase1
import Derived.Deep.MidRow
import Derived.Test.YtjajoiahgfafgaaDoorBArchTurned2
import Derived.Laws.BitsAllLaws
import Derived.Laws.BitsLemmas
set_option linter.unusedSimpArgs false
set_option linter.unusedVariables false

/- tree's place and dir. -/
section
set_option linter.unusedVariables false
namespace Go.Proofs.YtjajoiahgfafgaaDoor
open Go.RowKit Plain

def FoundV (t : List Nd) (s : List UInt8) (v : Value) : Prop := ∃ (lo : Nat) (b : Bool), v = .tuple #[.int .i64 (lo : Nat), .bool b] ∧ Found t s lo b

set_option maxHeartbeats 1000000 in
set_option maxRecDepth 100000 in
theorem place_any (t : List Nd) (A : Option Addr) (c : Nat) (s : List UInt8) (w : World) (hR : IsRows w 4 A (t.map ndV)) (hs : Srt t) (ht : t.length ≤ 1000) (hp : ∀ n ∈ t, n.path.length ≤ 9223372036854775807) (hs2 : s.length ≤ 9223372036854775807) :
    Calls Tryd.prog 68 #[.slice A t.length c, .string ⟨s.toArray⟩] w fun e w' => ∃ v, e = .returned v ∧ FoundV t s v ∧ Below w.heap.size w w' := by
  have HS := Lib.hid (search_any t A c s w hR hs ht hp hs2)
  clear hR hs hp
  go_enter Tryd.func68, Tryd.ntmps68
  go_wp2_with (go_at_call 82; refine HS.out.mono ?_; rintro e w1 ⟨lo, b, rfl, hf, hb⟩; have HF := Lib.hid hf; have HB := Lib.hid hb; clear hf hb)
  go_ret2
  exact ⟨_, rfl, ⟨lo, b, rfl, HF.out⟩, HB.out⟩

set_option maxHeartbeats 1000000 in
set_option maxRecDepth 100000 in
theorem dir_any (t : List Nd) (A : Option Addr) (c : Nat) (s : List UInt8) (w : World) (hR : IsRows w 4 A (t.map ndV)) (hs : Srt t) (ht : t.length ≤ 1000) (hp : ∀ n ∈ t, n.path.length ≤ 9223372036854775807) (hs2 : s.length ≤ 9223372036854775807) :
    Calls Tryd.prog 51 #[.slice A t.length c, .string ⟨s.toArray⟩] w (Ret w (.bool (dirN t s))) := by
  have HPL := Lib.hid (place_any t A c s w hR hs ht hp hs2)
  have HR := Lib.hid hR
  have HSR := Lib.hid hs
  clear hR hs hp
  go_enter Tryd.func51, Tryd.ntmps51
  cases s with
  | nil =>
    go_wp2_with (go_at_call 68; refine HPL.out.mono ?_; rintro e w1 ⟨v, rfl, ⟨lo, b, rfl, hf⟩, hb⟩; have HF := Lib.hid hf; have HB := Lib.hid hb; clear hf hb)
    go_ret
    exact ⟨rfl, HB.out⟩
  | cons x r =>
    go_upto_region 2 with (go_at_call 68; refine HPL.out.mono ?_; rintro e w1 ⟨v, rfl, ⟨lo, b, rfl, hf⟩, hb⟩; have HF := Lib.hid hf; have HB := Lib.hid hb; clear hf hb)
    have hfind := search_end (s := x :: r) HSR.out HF.out.2.1 HF.out.2.2.1
    have hb := HF.out.2.2.2
    cases b with
    | false =>
      have hn : findN t (x :: r) = none := by
        rw [hfind, if_neg]
        rintro ⟨h1, h2⟩
        rw [decide_eq_true h1, h2] at hb
        cases hb
      have hd : dirN t (x :: r) = false := by unfold dirN; rw [hn]; rfl
      have HD := Lib.hid hd
      clear hfind hb hd
      go_wp2_with (fail)
      go_ret
      exact ⟨by rw [HD.out]; first | rfl | simp, HB.out⟩
    | true =>
      have hb' := hb.symm
      rw [Bool.and_eq_true, decide_eq_true_eq, beq_iff_eq] at hb'
      have hlt : lo < t.length := hb'.1
      rw [if_pos hb'] at hfind
      obtain ⟨ad, rfl, c0, c1, c2, c3⟩ := node_cells (HR.out.below HB.out) (i := lo) hlt
      have hd : dirN t (x :: r) = ((t.getD lo default).kind == 2) := by unfold dirN; rw [hfind]; rfl
      have HD := Lib.hid hd
      have hlt' : (lo : Int) < t.length := by omega
      have h0 : (0 : Int) ≤ lo := by omega
      clear hfind hb hb' hd
      generalize t.getD lo default = nd at *
      go_wp2_with (fail)
      go_ret
      exact ⟨by rw [HD.out]; first | rfl | simp, HB.out⟩
end Go.Proofs.YtjajoiahgfafgaaDoor
end

/- Loads of a struct, and of a cell, in a region that draws its order. -/
section
namespace Go.Proofs.YtjajoiahgfafgaaDoor
open Go.RowKit

/-- A load of a whole struct, and of one cell, in a region that draws its order, whose calls keep old memory. -/
theorem quiet_load_row {P : Program} {w : World} {o : Oper} {a : Act} {K : Act → Prop} (ty : TypeId) (x : Operand) (ho : o.op = .load ty x)
    (g : Nat) (hx : a.eval x = .pointer (some ⟨g, 0, none⟩)) (t : TypeId) (cs : Array Value) (fr : Nat × Nat) (d : TypeDesc) (hg : w.heap[g]? = some (.cells cs t fr))
    (hu : P.underlying ty = some d) (hd : (match d with | .struct _ | .array _ _ => true | _ => false) = true) (hi : (P.info? ty).map (·.size) = some cs.size)
    (h : K (a.put o.dst (.agg cs))) : o.quiet P a (fun W => Below w.heap.size w W) K := by
  refine ⟨.agg cs, fun W hW => ?_, h⟩
  have hgW : W.heap[g]? = some (.cells cs t fr) := by rw [hW.block g (Array.getElem?_eq_some_iff.1 hg).1]; exact hg
  unfold Oper.quietAt execOp
  simp only [ho, hx, Instr.loadAt, Instr.sureAddr, Sem.run_bind, Sem.run_pure, Result.andThen_ok, run_loadVar_row W g t ty cs fr d hgW hu hd hi]
  exact ⟨rfl, rfl⟩
theorem quiet_load_cell {P : Program} {w : World} {o : Oper} {a : Act} {K : Act → Prop} (ty : TypeId) (x : Operand) (ho : o.op = .load ty x)
    (p : Addr) (hx : a.eval x = .pointer (some p)) (v : Value) (d : TypeDesc) (hc : w.cell? p = some v)
    (hu : P.underlying ty = some d) (hd : (match d with | .struct _ | .array _ _ => true | _ => false) = false)
    (h : K (a.put o.dst v)) : o.quiet P a (fun W => Below w.heap.size w W) K := by
  refine ⟨v, fun W hW => ?_, h⟩
  have hcW : W.cell? p = some v := by rw [hW.cell (World.block_lt_of_cell? _ _ hc)]; exact hc
  have hagg : (isAgg ty).run P W = .ok false W := by
    unfold isAgg
    rw [Sem.run_bind, run_underlying hu W]
    cases d <;> simp_all
  unfold Oper.quietAt execOp
  simp only [ho, hx, Instr.loadAt, Instr.sureAddr, Sem.run_bind, Sem.run_pure, Result.andThen_ok, loadVar, hagg]
  simp [go_sem, hcW, Oper.quietUpon]
/-- A load of a part of a row. -/
theorem quiet_load_mid {P : Program} {w : World} {o : Oper} {a : Act} {K : Act → Prop} (ty : TypeId) (x : Operand) (ho : o.op = .load ty x)
    (b f : Nat) (hx : a.eval x = .pointer (some ⟨b, f, none⟩)) (cs : List Value) (d : TypeDesc) (hc : w.rangeAt b f cs) (hb : b < w.heap.size)
    (hu : P.underlying ty = some d) (hd : d.isRow = true) (hi : (P.info? ty).map (·.size) = some cs.length)
    (h : K (a.put o.dst (.agg cs.toArray))) : o.quiet P a (fun W => Below w.heap.size w W) K := by
  refine ⟨.agg cs.toArray, fun W hW => ?_, h⟩
  have hcW : W.rangeAt b f cs := fun j v hv => by rw [hW.cell hb]; exact hc j v hv
  unfold Oper.quietAt execOp
  simp only [ho, hx, Instr.loadAt, Instr.sureAddr, Sem.run_bind, Sem.run_pure, Result.andThen_ok, run_loadVar_mid W b f ty cs d hcW hu hd hi]
  exact ⟨rfl, rfl⟩
end Go.Proofs.YtjajoiahgfafgaaDoor
end

/- A load of a struct at whatever address, in a region that draws its order. -/
section
set_option linter.unusedVariables false
namespace Go.Proofs.YtjajoiahgfafgaaDoor
open Go.RowKit

theorem run_loadVar_at {P : Program} (w : World) (a : Addr) (ty : TypeId) (cs : List Value) (d : TypeDesc) (hc : ∀ j v, cs[j]? = some v → w.cell? (a.add j) = some v)
    (hu : P.underlying ty = some d) (hd : d.isRow = true) (hi : (P.info? ty).map (·.size) = some cs.length) :
    (loadVar ty a).run P w = .ok (.agg cs.toArray) w := by
  have hl : (loadCells a cs.length).run P w = .ok cs.toArray w := run_loadCells_list (P := P) w a cs hc
  cases hq : P.info? ty with
  | none => simp [hq] at hi
  | some i =>
    have hs : i.size = cs.length := by simpa [hq] using hi
    have hagg : (isAgg ty).run P w = .ok true w := by
      unfold isAgg
      rw [Sem.run_bind, run_underlying hu w]
      cases d <;> simp_all
    simp [loadVar, Sem.run_bind, hagg, sizeOf, typeInfo, hq, hs, hl]
theorem quiet_load_at {P : Program} {w : World} {o : Oper} {a : Act} {K : Act → Prop} (ty : TypeId) (x : Operand) (ho : o.op = .load ty x)
    (p : Addr) (hx : a.eval x = .pointer (some p)) (cs : List Value) (d : TypeDesc) (hc : ∀ j v, cs[j]? = some v → w.cell? (p.add j) = some v)
    (hu : P.underlying ty = some d) (hd : d.isRow = true) (hi : (P.info? ty).map (·.size) = some cs.length)
    (h : K (a.put o.dst (.agg cs.toArray))) : o.quiet P a (fun W => Below w.heap.size w W) K := by
  refine ⟨.agg cs.toArray, fun W hW => ?_, h⟩
  have hcW : ∀ j v, cs[j]? = some v → W.cell? (p.add j) = some v := fun j v hv => (hW.cell (World.block_lt_of_cell? _ _ (hc j v hv))).trans (hc j v hv)
  unfold Oper.quietAt execOp
  simp only [ho, hx, Instr.loadAt, Instr.sureAddr, Sem.run_bind, Sem.run_pure, Result.andThen_ok, run_loadVar_at W p ty cs d hcW hu hd hi]
  exact ⟨rfl, rfl⟩
theorem pair_cells {w : World} {p : Addr} {u v : Value} (h0 : w.cell? p = some u) (h1 : w.cell? ⟨p.block, p.off + 1, none⟩ = some v) : ∀ j x, [u, v][j]? = some x → w.cell? (p.add j) = some x := by
  intro j x hx
  match j, hx with
  | 0, hx => simp at hx; rw [← hx]; exact h0
  | 1, hx => simp at hx; rw [← hx]; exact h1
  | j + 2, hx => simp at hx
end Go.Proofs.YtjajoiahgfafgaaDoor
end

/- tree.Check. -/
section
set_option linter.unusedVariables false
namespace Go.Proofs.YtjajoiahgfafgaaDoor
open Go.RowKit Plain

theorem rows_take {w : World} {A : Option Addr} {t : List Nd} (h : IsRows w 4 A (t.map ndV)) (i : Nat) : IsRows w 4 A ((t.take i).map ndV) := by
  intro k hk
  have hk' : k < i ∧ k < t.length := by simp only [List.length_map, List.length_take] at hk; omega
  obtain ⟨ad, e, hc⟩ := h k (by simpa using hk'.2)
  refine ⟨ad, e, fun j u hu => hc j u ?_⟩
  simpa using hu
theorem beforeN_take {t : List Nd} {i j : Nat} (h : j < i) : beforeN (t.take i) j = beforeN t j := by
  cases j with
  | zero => rfl
  | succ j => show decide _ = decide _; rw [getD_take h, getD_take (by omega)]
theorem srt_ahead {t : List Nd} {i : Nat} (h : ∀ j, j < i → nodeOK (t.take j) t j = true) : Srt (t.take i) := by
  refine srt_of fun j hj => ?_
  have hj' : j < i := by rw [List.length_take] at hj; omega
  rw [beforeN_take hj']
  have := h j hj'
  unfold nodeOK at this
  simp only [Bool.and_eq_true] at this
  exact this.1.2
theorem mem_getD {t : List Nd} {i : Nat} (h : i < t.length) : t.getD i default ∈ t := by
  rw [List.getD_eq_getElem?_getD, List.getElem?_eq_getElem h, Option.getD_some]; exact List.getElem_mem _
theorem join_dropLast_le : ∀ l : List (List UInt8), (joinS l.dropLast).length ≤ (joinS l).length
  | [] => Nat.le_refl _
  | [x] => by simp [joinS]
  | x :: y :: r => by
    have ih := join_dropLast_le (y :: r)
    rw [List.dropLast_cons_of_ne_nil (by simp)]
    cases h : (y :: r).dropLast with
    | nil => simp only [joinS, List.length_append]; omega
    | cons a b =>
      rw [h] at ih
      simp only [joinS, List.length_append, List.length_cons] at ih ⊢
      omega
theorem parentM_le (s : List UInt8) : (parentM s).length ≤ s.length := by
  unfold parentM
  split
  · have := join_dropLast_le (parts s)
    rwa [join_parts] at this
  · simp
theorem info_node : (Tryd.prog.info? 44).map (·.size) = some 4 := by kernel_rfl
def okE (b : Bool) : Int := if b then 0 else 60

set_option maxHeartbeats 4000000 in
set_option maxRecDepth 100000 in
theorem tcheck_any (t : List Nd) (A : Option Addr) (c : Nat) (m : Int) (w : World) (hL : Laid w m) (hR : IsRows w 4 A (t.map ndV)) (hc : t.length ≤ c) (hlen : t.length ≤ 9223372036854775807) (hp : ∀ n ∈ t, n.path.length ≤ 9223372036854775807 ∧ n.data.length ≤ 9223372036854775807) :
    Calls Tryd.prog 41 #[.slice A t.length c] w (Ret w (.int .i64 (okE (treeOK t)))) := by
  by_cases hbig : 1000 < t.length
  · have hb : decide ((1000 : Int) < (t.length : Int)) = true := by rw [decide_eq_true_eq]; omega
    have HE := Lib.hid (show treeOK t = false from treeOK_long hbig)
    rw [HE.out]
    clear hbig
    go_enter Tryd.func41, Tryd.ntmps41
    go_wp2_with (fail)
    go_ret
    exact ⟨rfl, Below.refl _ _⟩
  have hsm : t.length ≤ 1000 := by omega
  have hb : decide ((1000 : Int) < (t.length : Int)) = false := by rw [decide_eq_false_iff_not]; omega
  have HRES : Hid (restOK (fun i => nodeOK (t.take i) t i) 0 t.length = treeOK t) := Lib.hid (treeOK_own hsm).symm
  generalize treeOK t = res at *
  have HR := Lib.hid (fun W (h : Below w.heap.size w W) => hR.below h)
  have HPATH := Lib.hid (fun s W (h : Below w.heap.size w W) => Path_any s W (hL.below h).tabs)
  have HPAR := Lib.hid (fun s W (h : Below w.heap.size w W) (hs : s.length ≤ 9223372036854775807) => Parent_any s W (hL.below h).tabs hs)
  have HDIR := Lib.hid (fun i s W (h : Below w.heap.size w W) (hi : i ≤ t.length) (hs : Srt (t.take i)) (hs2 : s.length ≤ 9223372036854775807) =>
    show Calls Tryd.prog 51 #[.slice A i c, .string ⟨s.toArray⟩] W (Ret W (.bool (dirN (t.take i) s))) by
      have := dir_any (t.take i) A c s W (rows_take (hR.below h) i) hs (by rw [List.length_take]; omega) (fun n hn => (hp n (List.mem_of_mem_take hn)).1) hs2
      rw [List.length_take, Nat.min_eq_left hi] at this
      exact this)
  have HP := Lib.hid hp
  have HSZ := Lib.hid info_node
  clear hR hL hp
  go_enter Tryd.func41, Tryd.ntmps41
  go_wp2_with (fail)
  go_loopw [10] (fun t10 W => ∃ (i : Nat), i ≤ t.length ∧ t10 = .int .i64 i ∧ Hid (restOK (fun i => nodeOK (t.take i) t i) i t.length = res) ∧ Hid (∀ j, j < i → nodeOK (t.take j) t j = true) ∧ Hid (Below w.heap.size w W)) (fun t10 _ => t.length - (intOf t10).toNat)
  case atStart => exact ⟨0, by omega, rfl, HRES, Lib.hid (fun j h => by omega), Lib.hid (Below.refl _ _)⟩
  case round =>
    clear HRES
    obtain ⟨i, hi, rfl, HE, HA, HB⟩ := hrel
    have i0 : (0 : Int) ≤ i := by omega
    have e1 : IntKind.i64.wrap ((i : Int) + 1) = (i : Int) + 1 := IntWalk.i64_in _ (by omega)
    by_cases hlt : i < t.length
    · have i1 : (i : Int) < t.length := by omega
      have i2 : (i : Int) ≤ c := by omega
      obtain ⟨ad, rfl, c0, c1, c2, c3⟩ := node_cells (HR.out _ HB.out) hlt
      have hpl := HP.out _ (mem_getD hlt)
      have hat := restOK_at (f := fun i => nodeOK (t.take i) t i) hlt
      rw [HE.out] at hat
      have HN : Hid (nodeOK (t.take i) t i = (pathOK (t.getD i default).path && rightN (t.getD i default) && beforeN t i && dirN (t.take i) (parentM (t.getD i default).path))) := Lib.hid rfl
      obtain ⟨nd, HND⟩ : ∃ nd : Nd, Hid (nd = t.getD i default) := ⟨_, Lib.hid rfl⟩
      rw [← HND.out] at HN hpl c0 c1 c2 c3
      have HPL := Lib.hid hpl
      have HAT := Lib.hid hat
      clear hat hpl
      obtain ⟨wb, hwb⟩ : ∃ wb, wr.alloc (Obj.cells #[Value.string ⟨nd.path.toArray⟩, Value.int .i64 nd.kind, .string ⟨nd.data.toArray⟩, .int .i64 nd.mode] 44) = wb := ⟨_, rfl⟩
      have HWB := Lib.hid hwb
      have HBA := Lib.hid (show Below w.heap.size w wb by rw [← hwb]; exact HB.out.alloc HB.out.size _)
      have HROW := Lib.hid (show wb.heap[wr.heap.size]? = some (.cells #[Value.string ⟨nd.path.toArray⟩, Value.int .i64 nd.kind, .string ⟨nd.data.toArray⟩, .int .i64 nd.mode] 44 (0, 0)) by rw [← hwb]; exact heap_alloc_new _ _)
      have HC0 := Lib.hid (show wb.cell? ⟨wr.heap.size, 0, none⟩ = some (.string ⟨nd.path.toArray⟩) by rw [← hwb]; simp [go_sem])
      have HRIGHT := Lib.hid (fun W => right_any nd W HPL.out.2)
      clear hwb
      go_upto_region 6 with (fail)
      rw [HWB.out]
      clear c0 c1 c2 c3
      cases hpa : pathOK nd.path with
      | false =>
        have HP1 := Lib.hid (fun W h => (hpa ▸ HPATH.out nd.path W h : Calls Tryd.prog 48 #[.string ⟨nd.path.toArray⟩] W (Ret W (.bool false))))
        have HRF := Lib.hid (show res = false by rw [HAT.out, HN.out, hpa]; rfl)
        clear hpa
        refine wp_region_below (by kernel_rfl) (by kernel_rfl) ?_
        repeat first
          | (go_big_quiet_want; refine quiet_load_cell 9 _ rfl _ rfl _ _ HC0.out Tryd.underlying9 rfl ?_; simp only [Act.put, List.setIfInBounds_toArray, List.set_cons_succ, List.set_cons_zero]; go_big_quiet_on)
          | go_big_quiet_step ((intro hW; go_at_call 48; exact Ret.quiet hW (HP1.out _ (HBA.out.trans (hW.mono HBA.out.size)))))
        refine wpQuiet_nil ?_
        intro W2 hW2
        go_wp2_with (fail)
        go_ret
        exact ⟨by rw [HRF.out]; rfl, HBA.out.trans (hW2.mono HBA.out.size)⟩
      | true =>
      have HP1 := Lib.hid (fun W h => (hpa ▸ HPATH.out nd.path W h : Calls Tryd.prog 48 #[.string ⟨nd.path.toArray⟩] W (Ret W (.bool true))))
      rw [hpa, Bool.true_and] at HN
      clear hpa
      cases hri : rightN nd with
      | false =>
        have HP2 := Lib.hid (fun W => (hri ▸ HRIGHT.out W : Calls Tryd.prog 49 #[.agg (ndV nd).toArray] W (Ret W (.bool false))))
        have HRF := Lib.hid (show res = false by rw [HAT.out, HN.out, hri]; rfl)
        clear hri
        refine wp_region_below (by kernel_rfl) (by kernel_rfl) ?_
        repeat first
          | (go_big_quiet_want; refine quiet_load_cell 9 _ rfl _ rfl _ _ HC0.out Tryd.underlying9 rfl ?_; simp only [Act.put, List.setIfInBounds_toArray, List.set_cons_succ, List.set_cons_zero]; go_big_quiet_on)
          | (go_big_quiet_want; refine quiet_load_row 44 _ rfl _ rfl _ _ _ _ HROW.out Tryd.underlying44 rfl HSZ.out ?_; simp only [Act.put, List.setIfInBounds_toArray, List.set_cons_succ, List.set_cons_zero]; go_big_quiet_on)
          | go_big_quiet_step ((intro hW; first | (go_at_call 48; exact Ret.quiet hW (HP1.out _ (HBA.out.trans (hW.mono HBA.out.size)))) | (go_at_call 49; exact Ret.quiet hW (HP2.out _))))
        refine wpQuiet_nil ?_
        intro W2 hW2
        go_wp2_with (fail)
        go_ret
        exact ⟨by rw [HRF.out]; rfl, HBA.out.trans (hW2.mono HBA.out.size)⟩
      | true =>
      have HP2 := Lib.hid (fun W => (hri ▸ HRIGHT.out W : Calls Tryd.prog 49 #[.agg (ndV nd).toArray] W (Ret W (.bool true))))
      rw [hri, Bool.true_and] at HN
      clear hri
      cases i with
      | zero =>
        have HSRT := Lib.hid (srt_ahead HA.out)
        have hpp : (parentM nd.path).length ≤ 9223372036854775807 := Nat.le_trans (parentM_le nd.path) HPL.out.1
        have HPP := Lib.hid hpp
        clear hpp
        cases hdi : dirN (t.take (0)) (parentM nd.path) with
        | false =>
          have HP5 := Lib.hid (fun W h => (hdi ▸ HDIR.out (0) (parentM nd.path) W h (by omega) HSRT.out HPP.out : Calls Tryd.prog 51 #[.slice (some ad) (0) c, .string ⟨(parentM nd.path).toArray⟩] W (Ret W (.bool false))))
          have HRF := Lib.hid (show res = false by rw [HAT.out, HN.out, show beforeN t 0 = true from rfl, Bool.true_and, hdi]; rfl)
          clear hdi
          refine wp_region_below (by kernel_rfl) (by kernel_rfl) ?_
          repeat first
            | (go_big_quiet_want; refine quiet_load_cell 9 _ rfl _ rfl _ _ HC0.out Tryd.underlying9 rfl ?_; simp only [Act.put, List.setIfInBounds_toArray, List.set_cons_succ, List.set_cons_zero]; go_big_quiet_on)
            | (go_big_quiet_want; refine quiet_load_row 44 _ rfl _ rfl _ _ _ _ HROW.out Tryd.underlying44 rfl HSZ.out ?_; simp only [Act.put, List.setIfInBounds_toArray, List.set_cons_succ, List.set_cons_zero]; go_big_quiet_on)
            | go_big_quiet_step ((intro hW; first | (go_at_call 48; exact Ret.quiet hW (HP1.out _ (HBA.out.trans (hW.mono HBA.out.size)))) | (go_at_call 49; exact Ret.quiet hW (HP2.out _)) | (go_at_call 52; exact Ret.quiet hW (HPAR.out nd.path _ (HBA.out.trans (hW.mono HBA.out.size)) HPL.out.1)) | (go_at_call 51; exact Ret.quiet hW (HP5.out _ (HBA.out.trans (hW.mono HBA.out.size))))))
          refine wpQuiet_nil ?_
          intro W2 hW2
          go_wp2_with (fail)
          go_ret
          exact ⟨by rw [HRF.out]; rfl, HBA.out.trans (hW2.mono HBA.out.size)⟩
        | true =>
          have HP5 := Lib.hid (fun W h => (hdi ▸ HDIR.out (0) (parentM nd.path) W h (by omega) HSRT.out HPP.out : Calls Tryd.prog 51 #[.slice (some ad) (0) c, .string ⟨(parentM nd.path).toArray⟩] W (Ret W (.bool true))))
          have HNT : nodeOK (t.take (0)) t (0) = true := by rw [HN.out, show beforeN t 0 = true from rfl, Bool.true_and, hdi]
          have HRF := Lib.hid (show restOK (fun i => nodeOK (t.take i) t i) (0 + 1) t.length = res by rw [HAT.out, HNT, Bool.true_and])
          have HAL := Lib.hid (show ∀ j, j < 0 + 1 → nodeOK (t.take j) t j = true from fun j hj => by
            by_cases e : j = 0
            · rw [e]; exact HNT
            · exact HA.out j (by omega))
          clear hdi HNT
          refine wp_region_below (by kernel_rfl) (by kernel_rfl) ?_
          repeat first
            | (go_big_quiet_want; refine quiet_load_cell 9 _ rfl _ rfl _ _ HC0.out Tryd.underlying9 rfl ?_; simp only [Act.put, List.setIfInBounds_toArray, List.set_cons_succ, List.set_cons_zero]; go_big_quiet_on)
            | (go_big_quiet_want; refine quiet_load_row 44 _ rfl _ rfl _ _ _ _ HROW.out Tryd.underlying44 rfl HSZ.out ?_; simp only [Act.put, List.setIfInBounds_toArray, List.set_cons_succ, List.set_cons_zero]; go_big_quiet_on)
            | go_big_quiet_step ((intro hW; first | (go_at_call 48; exact Ret.quiet hW (HP1.out _ (HBA.out.trans (hW.mono HBA.out.size)))) | (go_at_call 49; exact Ret.quiet hW (HP2.out _)) | (go_at_call 52; exact Ret.quiet hW (HPAR.out nd.path _ (HBA.out.trans (hW.mono HBA.out.size)) HPL.out.1)) | (go_at_call 51; exact Ret.quiet hW (HP5.out _ (HBA.out.trans (hW.mono HBA.out.size))))))
          refine wpQuiet_nil ?_
          intro W2 hW2
          go_wp2_with (fail)
          go_roundw
          case rel => exact ⟨0 + 1, by omega, by first | rfl | go_num, HRF, HAL, Lib.hid (HBA.out.trans (hW2.mono HBA.out.size))⟩
          case measure => simp [intOf]; omega
      | succ k =>
        obtain ⟨ad2, e2, d0, d1, d2, d3⟩ := node_cells (HR.out _ HBA.out) (i := k) (by omega)
        obtain rfl : ad = ad2 := by injection e2
        have hpl2 := HP.out _ (mem_getD (show k < t.length by omega))
        have HBF : Hid (beforeN t (k + 1) = decide (orderM (t.getD k default).path nd.path < 0)) := Lib.hid (by rw [HND.out]; rfl)
        obtain ⟨md, HMD⟩ : ∃ nd : Nd, Hid (nd = t.getD k default) := ⟨_, Lib.hid rfl⟩
        rw [← HMD.out] at d0 d1 d2 d3 hpl2 HBF
        have HPL2 := Lib.hid hpl2
        have HD0 := Lib.hid d0
        clear d0 d1 d2 d3 hpl2 e2
        have k0 : (0 : Int) ≤ k := by omega
        have k1 : (k : Int) < t.length := by omega
        cases hor : decide (orderM md.path nd.path < 0) with
        | false =>
          have hoi : orderM md.path nd.path ≥ 0 := by have := of_decide_eq_false hor; omega
          have hoi2 : decide ((0 : Int) ≤ orderM md.path nd.path) = true := decide_eq_true hoi
          have HP3 := Lib.hid (fun W => Order_any md.path nd.path W HPL2.out.1 HPL.out.1)
          have HRF := Lib.hid (show res = false by rw [HAT.out, HN.out, HBF.out, hor]; rfl)
          clear hor
          generalize orderM md.path nd.path = o at *
          refine wp_region_below (by kernel_rfl) (by kernel_rfl) ?_
          repeat first
            | (go_big_quiet_want; refine quiet_load_cell 9 _ rfl _ rfl _ _ HC0.out Tryd.underlying9 rfl ?_; simp only [Act.put, List.setIfInBounds_toArray, List.set_cons_succ, List.set_cons_zero]; go_big_quiet_on)
            | (go_big_quiet_want; refine quiet_load_cell 9 _ rfl _ rfl _ _ HD0.out Tryd.underlying9 rfl ?_; simp only [Act.put, List.setIfInBounds_toArray, List.set_cons_succ, List.set_cons_zero]; go_big_quiet_on)
            | (go_big_quiet_want; refine quiet_load_row 44 _ rfl _ rfl _ _ _ _ HROW.out Tryd.underlying44 rfl HSZ.out ?_; simp only [Act.put, List.setIfInBounds_toArray, List.set_cons_succ, List.set_cons_zero]; go_big_quiet_on)
            | go_big_quiet_step ((intro hW; first | (go_at_call 48; exact Ret.quiet hW (HP1.out _ (HBA.out.trans (hW.mono HBA.out.size)))) | (go_at_call 49; exact Ret.quiet hW (HP2.out _)) | (go_at_call 50; exact Ret.quiet hW (HP3.out _))))
          refine wpQuiet_nil ?_
          intro W2 hW2
          go_wp2_with (fail)
          go_ret
          exact ⟨by rw [HRF.out]; rfl, HBA.out.trans (hW2.mono HBA.out.size)⟩
        | true =>
        have hoi2 : decide ((0 : Int) ≤ orderM md.path nd.path) = false := by have := of_decide_eq_true hor; rw [decide_eq_false_iff_not]; omega
        have HP3 := Lib.hid (fun W => Order_any md.path nd.path W HPL2.out.1 HPL.out.1)
        rw [hor] at HBF
        clear hor
        generalize orderM md.path nd.path = o at *
        have HSRT := Lib.hid (srt_ahead HA.out)
        have hpp : (parentM nd.path).length ≤ 9223372036854775807 := Nat.le_trans (parentM_le nd.path) HPL.out.1
        have HPP := Lib.hid hpp
        clear hpp
        cases hdi : dirN (t.take (k + 1)) (parentM nd.path) with
        | false =>
          have HP5 := Lib.hid (fun W h => (hdi ▸ HDIR.out (k + 1) (parentM nd.path) W h (by omega) HSRT.out HPP.out : Calls Tryd.prog 51 #[.slice (some ad) (k + 1) c, .string ⟨(parentM nd.path).toArray⟩] W (Ret W (.bool false))))
          have HRF := Lib.hid (show res = false by rw [HAT.out, HN.out, HBF.out, Bool.true_and, hdi]; rfl)
          clear hdi
          refine wp_region_below (by kernel_rfl) (by kernel_rfl) ?_
          repeat first
            | (go_big_quiet_want; refine quiet_load_cell 9 _ rfl _ rfl _ _ HC0.out Tryd.underlying9 rfl ?_; simp only [Act.put, List.setIfInBounds_toArray, List.set_cons_succ, List.set_cons_zero]; go_big_quiet_on)
            | (go_big_quiet_want; refine quiet_load_cell 9 _ rfl _ rfl _ _ HD0.out Tryd.underlying9 rfl ?_; simp only [Act.put, List.setIfInBounds_toArray, List.set_cons_succ, List.set_cons_zero]; go_big_quiet_on)
            | (go_big_quiet_want; refine quiet_load_row 44 _ rfl _ rfl _ _ _ _ HROW.out Tryd.underlying44 rfl HSZ.out ?_; simp only [Act.put, List.setIfInBounds_toArray, List.set_cons_succ, List.set_cons_zero]; go_big_quiet_on)
            | go_big_quiet_step ((intro hW; first | (go_at_call 48; exact Ret.quiet hW (HP1.out _ (HBA.out.trans (hW.mono HBA.out.size)))) | (go_at_call 49; exact Ret.quiet hW (HP2.out _)) | (go_at_call 50; exact Ret.quiet hW (HP3.out _)) | (go_at_call 52; exact Ret.quiet hW (HPAR.out nd.path _ (HBA.out.trans (hW.mono HBA.out.size)) HPL.out.1)) | (go_at_call 51; exact Ret.quiet hW (HP5.out _ (HBA.out.trans (hW.mono HBA.out.size))))))
          refine wpQuiet_nil ?_
          intro W2 hW2
          go_wp2_with (fail)
          go_ret
          exact ⟨by rw [HRF.out]; rfl, HBA.out.trans (hW2.mono HBA.out.size)⟩
        | true =>
          have HP5 := Lib.hid (fun W h => (hdi ▸ HDIR.out (k + 1) (parentM nd.path) W h (by omega) HSRT.out HPP.out : Calls Tryd.prog 51 #[.slice (some ad) (k + 1) c, .string ⟨(parentM nd.path).toArray⟩] W (Ret W (.bool true))))
          have HNT : nodeOK (t.take (k + 1)) t (k + 1) = true := by rw [HN.out, HBF.out, Bool.true_and, hdi]
          have HRF := Lib.hid (show restOK (fun i => nodeOK (t.take i) t i) (k + 1 + 1) t.length = res by rw [HAT.out, HNT, Bool.true_and])
          have HAL := Lib.hid (show ∀ j, j < k + 1 + 1 → nodeOK (t.take j) t j = true from fun j hj => by
            by_cases e : j = k + 1
            · rw [e]; exact HNT
            · exact HA.out j (by omega))
          clear hdi HNT
          refine wp_region_below (by kernel_rfl) (by kernel_rfl) ?_
          repeat first
            | (go_big_quiet_want; refine quiet_load_cell 9 _ rfl _ rfl _ _ HC0.out Tryd.underlying9 rfl ?_; simp only [Act.put, List.setIfInBounds_toArray, List.set_cons_succ, List.set_cons_zero]; go_big_quiet_on)
            | (go_big_quiet_want; refine quiet_load_cell 9 _ rfl _ rfl _ _ HD0.out Tryd.underlying9 rfl ?_; simp only [Act.put, List.setIfInBounds_toArray, List.set_cons_succ, List.set_cons_zero]; go_big_quiet_on)
            | (go_big_quiet_want; refine quiet_load_row 44 _ rfl _ rfl _ _ _ _ HROW.out Tryd.underlying44 rfl HSZ.out ?_; simp only [Act.put, List.setIfInBounds_toArray, List.set_cons_succ, List.set_cons_zero]; go_big_quiet_on)
            | go_big_quiet_step ((intro hW; first | (go_at_call 48; exact Ret.quiet hW (HP1.out _ (HBA.out.trans (hW.mono HBA.out.size)))) | (go_at_call 49; exact Ret.quiet hW (HP2.out _)) | (go_at_call 50; exact Ret.quiet hW (HP3.out _)) | (go_at_call 52; exact Ret.quiet hW (HPAR.out nd.path _ (HBA.out.trans (hW.mono HBA.out.size)) HPL.out.1)) | (go_at_call 51; exact Ret.quiet hW (HP5.out _ (HBA.out.trans (hW.mono HBA.out.size))))))
          refine wpQuiet_nil ?_
          intro W2 hW2
          go_wp2_with (fail)
          go_roundw
          case rel => exact ⟨k + 1 + 1, by omega, by first | rfl | go_num, HRF, HAL, Lib.hid (HBA.out.trans (hW2.mono HBA.out.size))⟩
          case measure => simp [intOf]; omega
    · have i1 : ¬ (i : Int) < t.length := by omega
      obtain rfl : i = t.length := by omega
      have HE2 := Lib.hid (show res = true by rw [← HE.out, restOK_end])
      go_wp2_with (fail)
      go_ret
      exact ⟨by rw [HE2.out]; rfl, HB.out⟩
end Go.Proofs.YtjajoiahgfafgaaDoor
end

/- tree.Same. -/
section
set_option linter.unusedVariables false
namespace Go.Proofs.YtjajoiahgfafgaaDoor
open Go.RowKit Plain

namespace Plain
def eqAt (a b : List Nd) (i : Nat) : Bool := a.getD i default == b.getD i default
theorem eq_rest {a b : List Nd} (h : a.length = b.length) : restOK (eqAt a b) 0 a.length = (a == b) := by
  rw [restOK_all, Bool.eq_iff_iff, List.all_eq_true, beq_iff_eq]
  constructor
  · intro q
    refine List.ext_getElem h fun i h1 h2 => ?_
    have := q i (List.mem_range.2 h1)
    unfold eqAt at this
    simpa [List.getD, h1, h2] using this
  · rintro rfl i hi
    unfold eqAt; simp
theorem nd_ne {x y : Nd} : (x == y) = ((x.path == y.path) && (x.kind == y.kind) && (x.data == y.data) && (x.mode == y.mode)) := by
  obtain ⟨p, k, d, m⟩ := x
  obtain ⟨p', k', d', m'⟩ := y
  rw [Bool.eq_iff_iff]
  simp only [beq_iff_eq, Bool.and_eq_true, Nd.mk.injEq, and_assoc]
end Plain

theorem fields_node : (Tryd.prog.fieldsOf 44).toList.map (fun f => (f.name == "_", f.type, f.offset)) = [(false, 9, 0), (false, 3, 1), (false, 9, 2), (false, 3, 3)] := by kernel_rfl
theorem ba_list_beq (l m : List UInt8) : ((ByteArray.mk l.toArray).toList == (ByteArray.mk m.toArray).toList) = (l == m) := by
  rw [ByteArray.toList_eq, ByteArray.toList_eq]
theorem part_cell {P : Program} {W : World} {ty : TypeId} {d : TypeDesc} {xs : Array Value} {off : Nat} {v : Value} (hu : P.underlying ty = some d) (hd : (match d with | .struct _ | .array _ _ => true | _ => false) = false) (hx : xs[off]? = some v) :
    (part ty xs off).run P W = .ok v W := by
  have hagg : (isAgg ty).run P W = .ok false W := by
    unfold isAgg
    rw [Sem.run_bind, run_underlying hu W]
    cases d <;> simp_all
  simp [part, hagg, hx, Sem.run_bind]
theorem eqFields_step {P : Program} {W : World} {d : Nat} {xs ys : Array Value} {f : Field} {fs : List Field} {a b : Value} {r : Bool} (hn : (f.name == "_") = false) (ha : (part f.type xs f.offset).run P W = .ok a W) (hb : (part f.type ys f.offset).run P W = .ok b W) (hr : (Op.equalIn d f.type a b).run P W = .ok r W)
    {q : Bool} (hq : (Op.eqFields d xs ys fs).run P W = .ok q W) : (Op.eqFields d xs ys (f :: fs)).run P W = .ok (r && q) W := by
  have hn' : f.name ≠ "_" := by simpa using hn
  simp only [Op.eqFields, if_pos hn', Sem.run_bind, ha, hb, hr, Result.andThen_ok]
  cases r
  · simp
  · simpa using hq
theorem node_eq (W : World) (x y : Nd) : (Op.equalIn 10000 44 (.agg (ndV x).toArray) (.agg (ndV y).toArray)).run Tryd.prog W = .ok (((x.path == y.path) && ((x.kind == y.kind) && ((x.data == y.data) && ((x.mode == y.mode) && true))))) W := by
  obtain ⟨p, k, d, m⟩ := x
  obtain ⟨p', k', d', m'⟩ := y
  rw [run_equalIn_agg (d := 9999) _ _ _ _ (by kernel_rfl) (by kernel_rfl)]
  have hf := fields_node
  revert hf
  generalize (Tryd.prog.fieldsOf 44).toList = fs
  intro hf
  obtain ⟨f0, f1, f2, f3, rfl⟩ : ∃ f0 f1 f2 f3, fs = [f0, f1, f2, f3] := by
    have hl : fs.length = 4 := by simpa using congrArg List.length hf
    clear hf
    match fs, hl with
    | [f0, f1, f2, f3], _ => exact ⟨f0, f1, f2, f3, rfl⟩
  simp only [List.map_cons, List.map_nil, List.cons.injEq, Prod.mk.injEq, and_true] at hf
  obtain ⟨⟨n0, t0, o0⟩, ⟨n1, t1, o1⟩, ⟨n2, t2, o2⟩, ⟨n3, t3, o3⟩⟩ := hf
  have hS := fun {xs : Array Value} {off : Nat} {v : Value} (hx : xs[off]? = some v) => part_cell (W := W) (ty := 9) Tryd.underlying9 rfl hx
  have hI := fun {xs : Array Value} {off : Nat} {v : Value} (hx : xs[off]? = some v) => part_cell (W := W) (ty := 3) Tryd.underlying3 rfl hx
  refine eqFields_step n0 (a := .string ⟨p.toArray⟩) (b := .string ⟨p'.toArray⟩) (by rw [t0, o0]; exact hS rfl) (by rw [t0, o0]; exact hS rfl) (by rw [t0, run_equalIn_string (d := 9998) _ _ _ _ Tryd.underlying9, ba_list_beq]) ?_
  refine eqFields_step n1 (a := .int .i64 k) (b := .int .i64 k') (by rw [t1, o1]; exact hI rfl) (by rw [t1, o1]; exact hI rfl) (by rw [t1, run_equalIn_int (d := 9998) _ _ _ _ _ _ Tryd.underlying3]) ?_
  refine eqFields_step n2 (a := .string ⟨d.toArray⟩) (b := .string ⟨d'.toArray⟩) (by rw [t2, o2]; exact hS rfl) (by rw [t2, o2]; exact hS rfl) (by rw [t2, run_equalIn_string (d := 9998) _ _ _ _ Tryd.underlying9, ba_list_beq]) ?_
  exact eqFields_step n3 (a := .int .i64 m) (b := .int .i64 m') (by rw [t3, o3]; exact hI rfl) (by rw [t3, o3]; exact hI rfl) (by rw [t3, run_equalIn_int (d := 9998) _ _ _ _ _ _ Tryd.underlying3]) rfl
theorem node_neq (W : World) (x y : Nd) : (binOp .neq 44 (.agg (ndV x).toArray) (.agg (ndV y).toArray)).run Tryd.prog W = .ok (.bool (!(x == y))) W := by
  rw [run_neq_struct, node_eq, Result.andThen_ok, nd_ne]
  simp only [Bool.and_true, Bool.and_assoc]

set_option maxHeartbeats 4000000 in
set_option maxRecDepth 100000 in
theorem equal_any (a b : List Nd) (A B : Option Addr) (c d : Nat) (w : World) (ha : IsRows w 4 A (a.map ndV)) (hb : IsRows w 4 B (b.map ndV)) (hla : a.length ≤ 9223372036854775807) (hlb : b.length ≤ 9223372036854775807) :
    Calls Tryd.prog 38 #[.slice A a.length c, .slice B b.length d] w (Ret w (.bool (a == b))) := by
  by_cases hl : a.length = b.length
  · have HRES := Lib.hid (eq_rest hl)
    have HA := Lib.hid (fun W (h : Below w.heap.size w W) => ha.below h)
    have HB := Lib.hid (fun W (h : Below w.heap.size w W) => hb.below h)
    generalize (a == b) = res at *
    have HL := Lib.hid hl
    rw [← hl]
    clear ha hb hl
    go_enter Tryd.func38, Tryd.ntmps38
    go_wp2_with (fail)
    go_loopw [13] (fun t13 W => ∃ (i : Nat), i ≤ a.length ∧ t13 = .int .i64 i ∧ Hid (restOK (eqAt a b) i a.length = res) ∧ Hid (Below w.heap.size w W)) (fun t13 _ => a.length - (intOf t13).toNat)
    case atStart => exact ⟨0, by omega, rfl, HRES, Lib.hid (Below.refl _ _)⟩
    case round =>
      clear HRES
      obtain ⟨i, hi, rfl, HE, HW⟩ := hrel
      have i0 : (0 : Int) ≤ i := by omega
      by_cases hlt : i < a.length
      · have i1 : (i : Int) < a.length := by omega
        have e1 : IntKind.i64.wrap ((i : Int) + 1) = (i : Int) + 1 := IntWalk.i64_in _ (by omega)
        obtain ⟨ad, rfl, c0, c1, c2, c3⟩ := node_cells (HA.out _ HW.out) hlt
        obtain ⟨bd, rfl, d0, d1, d2, d3⟩ := node_cells (HB.out _ HW.out) (i := i) (by rw [← HL.out]; exact hlt)
        have hat := restOK_at (f := eqAt a b) hlt
        rw [HE.out] at hat
        rw [show eqAt a b i = (a.getD i default == b.getD i default) from rfl] at hat
        generalize a.getD i default = x at *
        generalize b.getD i default = y at *
        obtain ⟨p, k, dd, m⟩ := x
        obtain ⟨p', k', dd', m'⟩ := y
        simp only at c0 c1 c2 c3 d0 d1 d2 d3
        have HAT := Lib.hid hat
        clear hat
        cases hxy : (({ path := p, kind := k, data := dd, mode := m } : Nd) == { path := p', kind := k', data := dd', mode := m' }) with
        | false =>
          have HNE := fun W => node_neq W ⟨p, k, dd, m⟩ ⟨p', k', dd', m'⟩
          rw [hxy] at HNE
          unfold ndV at HNE
          simp only [Bool.not_false] at HNE
          have HRF := Lib.hid (show res = false by rw [HAT.out, hxy]; rfl)
          clear hxy
          go_wp2_with (fail)
          go_quiet (fail)
          go_wp2_with (fail)
          go_ret
          exact ⟨by rw [HRF.out]; first | rfl | simp, below_drewN HW.out _⟩
        | true =>
          have HNE := fun W => node_neq W ⟨p, k, dd, m⟩ ⟨p', k', dd', m'⟩
          rw [hxy] at HNE
          unfold ndV at HNE
          simp only [Bool.not_true] at HNE
          have HRF := Lib.hid (show restOK (eqAt a b) (i + 1) a.length = res by rw [HAT.out, hxy, Bool.true_and])
          clear hxy
          go_wp2_with (fail)
          go_quiet (fail)
          go_wp2_with (fail)
          go_roundw
          case rel => exact ⟨i + 1, by omega, by go_num, HRF, Lib.hid (below_drewN HW.out _)⟩
          case measure => simp [intOf]; omega
      · obtain rfl : i = a.length := by omega
        have i1 : decide ((a.length : Int) < (a.length : Int)) = false := by rw [decide_eq_false_iff_not]; omega
        have HE2 := Lib.hid (show res = true by rw [← HE.out, restOK_end])
        go_wp2_with (fail)
        go_ret
        exact ⟨by rw [HE2.out]; first | rfl | simp, HW.out⟩
  · have h1 : ((a.length : Int) == (b.length : Int)) = false := by
      rw [beq_eq_false_iff_ne]; omega
    have HRES := Lib.hid (show (a == b) = false by rw [beq_eq_false_iff_ne]; intro e; exact hl (by rw [e]))
    rw [HRES.out]
    clear hl
    go_enter Tryd.func38, Tryd.ntmps38
    go_wp2_with (fail)
    go_ret
    exact ⟨rfl, Below.refl _ _⟩

set_option maxHeartbeats 1000000 in
theorem tsame_any (a b : List Nd) (A B : Option Addr) (c d : Nat) (w : World) (ha : IsRows w 4 A (a.map ndV)) (hb : IsRows w 4 B (b.map ndV)) (hla : a.length ≤ 9223372036854775807) (hlb : b.length ≤ 9223372036854775807) :
    Calls Tryd.prog 23 #[.slice A a.length c, .slice B b.length d] w (Ret w (.bool (a == b))) := by
  have HE := Lib.hid (equal_any a b A B c d w ha hb hla hlb)
  clear ha hb
  generalize (a == b) = res at *
  go_enter Tryd.func23, Tryd.ntmps23
  go_wp2_with (go_at_call 38; refine HE.out.mono ?_; rintro e w1 ⟨rfl, hb1⟩)
  go_ret
  exact ⟨rfl, hb1⟩
end Go.Proofs.YtjajoiahgfafgaaDoor
end

/- Plain laws of the digits: no program in sight. -/
section
namespace Go.Proofs.YtjajoiahgfafgaaDoor.Plain

/-- The sixteen digits. -/
def digs : List UInt8 := [48, 49, 50, 51, 52, 53, 54, 55, 56, 57, 97, 98, 99, 100, 101, 102]
def hexB (c : UInt8) : List UInt8 := [digs.getD (c.toNat / 16) 0, digs.getD (c.toNat % 16) 0]
def hex (l : List UInt8) : List UInt8 := l.flatMap hexB
theorem hex_length (l : List UInt8) : (hex l).length = 2 * l.length := by
  induction l with
  | nil => rfl
  | cons c l ih => simp only [hex, List.flatMap_cons, List.length_append] at ih ⊢; simp only [hexB, List.length_cons, List.length_nil]; omega
theorem hex_snoc (l : List UInt8) (k : Nat) (h : k < l.length) : hex (l.take (k + 1)) = hex (l.take k) ++ hexB l[k] := by
  unfold hex
  rw [List.take_succ_eq_append_getElem h, List.flatMap_append]; simp
/-- the digits' places, as the program reckons them -/
theorem hex_go (c : UInt8) : ∃ (x y : Nat) (hx : x < digs.length) (hy : y < digs.length), x < 16 ∧ y < 16 ∧ (c.toNat : Int) / 16 = (x : Int) ∧ Go.bits .and .u8 (c.toNat : Int) 15 = (y : Int) ∧ (c.toNat : Int) % 16 = (y : Int) ∧ hexB c = [digs[x], digs[y]] := by
  have hc := c.toNat_lt
  refine ⟨c.toNat / 16, c.toNat % 16, by simp [digs]; omega, by simp [digs]; omega, by omega, by omega, by omega, ?_, by omega, ?_⟩
  · rw [show (15 : Int) = ((15 : Nat) : Int) by rfl, u8_and_nat _ _ hc (by omega)]
    have := Nat.and_two_pow_sub_one_eq_mod c.toNat 4
    simp at this
    rw [this]
  · simp only [hexB, List.getD_eq_getElem?_getD]
    rw [List.getElem?_eq_getElem, List.getElem?_eq_getElem]; rfl
end Go.Proofs.YtjajoiahgfafgaaDoor.Plain
end

/- Plain laws of the strong fingerprint: words of 32 bits; no program in sight. -/
section
namespace Go.Proofs.YtjajoiahgfafgaaDoor.Plain

/-- A word of 32 bits as a number of the model. -/
def V (x : UInt32) : Int := (x.toNat : Int)
theorem V_lt (x : UInt32) : 0 ≤ V x ∧ V x < 4294967296 := by have := x.toNat_lt; unfold V; omega
theorem V_inj {x y : UInt32} (h : V x = V y) : x = y := by
  unfold V at h; exact UInt32.toNat_inj.1 (by omega)
theorem V_of (n : Nat) : V (UInt32.ofNat n) = ((n % 4294967296 : Nat) : Int) := by
  unfold V; rw [UInt32.toNat_ofNat']
theorem V_xor (x y : UInt32) : Go.bits .xor .u32 (V x) (V y) = V (x ^^^ y) := by
  unfold V; rw [u32_xor_nat _ _ x.toNat_lt y.toNat_lt, UInt32.toNat_xor]
theorem V_and (x y : UInt32) : Go.bits .and .u32 (V x) (V y) = V (x &&& y) := by
  unfold V; rw [u32_and_nat _ _ x.toNat_lt y.toNat_lt, UInt32.toNat_and]
theorem V_or (x y : UInt32) : Go.bits .or .u32 (V x) (V y) = V (x ||| y) := by
  unfold V; rw [u32_or_nat _ _ x.toNat_lt y.toNat_lt, UInt32.toNat_or]
theorem V_not (x : UInt32) : Go.bits .xor .u32 4294967295 (V x) = V (~~~x) := by
  unfold V
  rw [show (4294967295 : Int) = ((4294967295 : Nat) : Int) by rfl, u32_xor_nat _ _ (by omega) x.toNat_lt]
  congr 1
theorem V_add (x y : UInt32) : (V x + V y) % (4294967296 : Int) = V (x + y) := by
  unfold V; rw [UInt32.toNat_add]; omega
theorem V_sub (x y : UInt32) : (V x - V y) % 4294967296 = V (x - y) := by
  unfold V; rw [UInt32.toNat_sub]; have := x.toNat_lt; have := y.toNat_lt; omega
theorem V_shr (x : UInt32) (n : Nat) (h : n < 32) : V x / 2 ^ n = V (x >>> UInt32.ofNat n) := by
  unfold V
  rw [UInt32.toNat_shiftRight, Nat.shiftRight_eq_div_pow, UInt32.toNat_ofNat']
  rw [show n % 2 ^ 32 % 32 = n by omega]
  push_cast; rfl
theorem V_shl (x : UInt32) (n : Nat) (h : n < 32) : (V x * 2 ^ n) % (4294967296 : Int) = V (x <<< UInt32.ofNat n) := by
  unfold V
  rw [UInt32.toNat_shiftLeft, Nat.shiftLeft_eq, UInt32.toNat_ofNat', show n % 2 ^ 32 % 32 = n by omega, Int.natCast_emod, Int.natCast_mul, Int.natCast_pow]
  rfl

theorem V_shr3 (x : UInt32) : V x / (8 : Int) = V (x >>> (3 : UInt32)) := V_shr x 3 (by omega)
theorem V_shr10 (x : UInt32) : V x / (1024 : Int) = V (x >>> (10 : UInt32)) := V_shr x 10 (by omega)
/-- turned to the right -/
def rotr (x n : UInt32) : UInt32 := x >>> n ||| x <<< (32 - n)

theorem rot_eq (x : UInt32) (n m : Nat) (hn : 1 ≤ n) (hm : m + n = 32) (hm1 : 1 ≤ m) :
    Go.bits .or .u32 (V x * 2 ^ m % 4294967296) (V x / 2 ^ (32 - m)) = V (rotr x (UInt32.ofNat n)) := by
  rw [V_shl x m (by omega), V_shr x (32 - m) (by omega), V_or]
  unfold rotr
  have h1 : (32 : UInt32) - UInt32.ofNat n = UInt32.ofNat m := by
    apply UInt32.toNat_inj.1
    rw [UInt32.toNat_sub, UInt32.toNat_ofNat', UInt32.toNat_ofNat']
    simp
    omega
  rw [h1, UInt32.or_comm, show 32 - m = n by omega]

/-- the eight words -/
structure S8 where
  (a b c d e f g h : UInt32)
deriving DecidableEq

def sig0 (x : UInt32) : UInt32 := rotr x 7 ^^^ rotr x 18 ^^^ x >>> 3
def sig1 (x : UInt32) : UInt32 := rotr x 17 ^^^ rotr x 19 ^^^ x >>> 10
def Sig0 (x : UInt32) : UInt32 := rotr x 2 ^^^ rotr x 13 ^^^ rotr x 22
def Sig1 (x : UInt32) : UInt32 := rotr x 6 ^^^ rotr x 11 ^^^ rotr x 25
def ch (e f g : UInt32) : UInt32 := e &&& f ^^^ ~~~e &&& g
def maj (a b c : UInt32) : UInt32 := a &&& b ^^^ a &&& c ^^^ b &&& c

theorem V_add4 (a b c d : UInt32) : (V a + V b + V c + V d) % 4294967296 = V (a + b + c + d) := by
  rw [← V_add, ← V_add, ← V_add]; omega
theorem V_add3 (a b c : UInt32) : (V a + V b + V c) % 4294967296 = V (a + b + c) := by
  rw [← V_add, ← V_add]; omega
theorem nextW_go (a x c y : UInt32) : (V a + Go.bits .xor .u32 (V (rotr x 7 ^^^ rotr x 18)) (V x / 8) + V c + Go.bits .xor .u32 (V (rotr y 17 ^^^ rotr y 19)) (V y / 1024)) % 4294967296 = V (a + sig0 x + c + sig1 y) := by
  rw [V_shr3, V_shr10, V_xor, V_xor, V_add4]; rfl

def step (v : S8) (k w : UInt32) : S8 :=
  let t := v.h + Sig1 v.e + ch v.e v.f v.g + k + w
  let s := Sig0 v.a + maj v.a v.b v.c
  ⟨t + s, v.a, v.b, v.c, v.d + t, v.e, v.f, v.g⟩
def add8 (v h : S8) : S8 := ⟨v.a + h.a, v.b + h.b, v.c + h.c, v.d + h.d, v.e + h.e, v.f + h.f, v.g + h.g, v.h + h.h⟩

theorem not_form : (if Go.IntKind.u32.signed = true then (-1 : Int) else Go.IntKind.u32.max) = 4294967295 := rfl
def tOf (h e f g k w : UInt32) : UInt32 := h + Sig1 e + ch e f g + k + w
def sOf (a b c : UInt32) : UInt32 := Sig0 a + maj a b c
theorem t_go (h e f g k w : UInt32) : ((V (h + (rotr e 6 ^^^ rotr e 11 ^^^ rotr e 25)) + Go.bits .xor .u32 (V (e &&& f)) (Go.bits .and .u32 (Go.bits .xor .u32 (if Go.IntKind.u32.signed = true then -1 else Go.IntKind.u32.max) (V e)) (V g)) + V k) % 4294967296 + V w) % 4294967296 =
    V (tOf h e f g k w) := by
  unfold tOf
  rw [not_form, V_not, V_and, V_xor, ← V_add (h + Sig1 e + ch e f g + k), ← V_add (h + Sig1 e + ch e f g), ← V_add (h + Sig1 e)]
  unfold Sig1 ch
  omega

/-- the rounds' constants -/
def KK : List UInt32 := [
  0x428a2f98, 0x71374491, 0xb5c0fbcf, 0xe9b5dba5, 0x3956c25b, 0x59f111f1, 0x923f82a4, 0xab1c5ed5,
  0xd807aa98, 0x12835b01, 0x243185be, 0x550c7dc3, 0x72be5d74, 0x80deb1fe, 0x9bdc06a7, 0xc19bf174,
  0xe49b69c1, 0xefbe4786, 0x0fc19dc6, 0x240ca1cc, 0x2de92c6f, 0x4a7484aa, 0x5cb0a9dc, 0x76f988da,
  0x983e5152, 0xa831c66d, 0xb00327c8, 0xbf597fc7, 0xc6e00bf3, 0xd5a79147, 0x06ca6351, 0x14292967,
  0x27b70a85, 0x2e1b2138, 0x4d2c6dfc, 0x53380d13, 0x650a7354, 0x766a0abb, 0x81c2c92e, 0x92722c85,
  0xa2bfe8a1, 0xa81a664b, 0xc24b8b70, 0xc76c51a3, 0xd192e819, 0xd6990624, 0xf40e3585, 0x106aa070,
  0x19a4c116, 0x1e376c08, 0x2748774c, 0x34b0bcb5, 0x391c0cb3, 0x4ed8aa4a, 0x5b9cca4f, 0x682e6ff3,
  0x748f82ee, 0x78a5636f, 0x84c87814, 0x8cc70208, 0x90befffa, 0xa4506ceb, 0xbef9a3f7, 0xc67178f2]
def H0 : S8 := ⟨0x6a09e667, 0xbb67ae85, 0x3c6ef372, 0xa54ff53a, 0x510e527f, 0x9b05688c, 0x1f83d9ab, 0x5be0cd19⟩

/-- four bytes as a word -/
def word (b0 b1 b2 b3 : UInt8) : UInt32 := UInt32.ofNat (b0.toNat * 16777216 + b1.toNat * 65536 + b2.toNat * 256 + b3.toNat)
/-- the i-th word of a block -/
def wordAt (b : List UInt8) (i : Nat) : UInt32 := word (b.getD (4 * i) 0) (b.getD (4 * i + 1) 0) (b.getD (4 * i + 2) 0) (b.getD (4 * i + 3) 0)
/-- one word more -/
def nextW (l : List UInt32) (n : Nat) : UInt32 := l.getD (n - 16) 0 + sig0 (l.getD (n - 15) 0) + l.getD (n - 7) 0 + sig1 (l.getD (n - 2) 0)
/-- the first n words -/
def sched (b : List UInt8) : Nat → List UInt32
  | 0 => []
  | n + 1 => sched b n ++ [if n < 16 then wordAt b n else nextW (sched b n) n]
def runW (w : List UInt32) (h : S8) : Nat → S8
  | 0 => h
  | n + 1 => step (runW w h n) (KK.getD n 0) (w.getD n 0)
def round (h : S8) (b : List UInt8) : S8 := add8 (runW (sched b 64) h 64) h
/-- n blocks -/
def runB : Nat → S8 → List UInt8 → S8
  | 0, h, _ => h
  | n + 1, h, l => runB n (round h (l.take 64)) (l.drop 64)
def bytes4 (x : UInt32) : List UInt8 := [UInt8.ofNat (x.toNat / 16777216), UInt8.ofNat (x.toNat / 65536), UInt8.ofNat (x.toNat / 256), UInt8.ofNat x.toNat]
def out8 (v : S8) : List UInt8 := bytes4 v.a ++ bytes4 v.b ++ bytes4 v.c ++ bytes4 v.d ++ bytes4 v.e ++ bytes4 v.f ++ bytes4 v.g ++ bytes4 v.h
/-- the bits' number, in eight bytes -/
def size8 (n : Nat) : List UInt8 := (List.range 8).map fun i => UInt8.ofNat (n * 8 / 2 ^ (56 - 8 * i))
/-- how many noughts -/
def noughts (n : Nat) : Nat := (119 - n % 64) % 64
def padding (n : Nat) : List UInt8 := 128 :: List.replicate (noughts n) 0 ++ size8 n
def sha (s : List UInt8) : List UInt8 := out8 (runB ((s.length + 72) / 64) H0 (s ++ padding s.length))

theorem shl24 (a b c d : Nat) (_ : a < 256) (hb : b < 256) (hc : c < 256) (hd : d < 256) : (a * 16777216 ||| b * 65536 ||| c * 256 ||| d) = a * 16777216 + b * 65536 + c * 256 + d := by
  have h1 : a * 16777216 ||| b * 65536 = a * 16777216 + b * 65536 := by
    have := Nat.two_pow_add_eq_or_of_lt (i := 24) (b := b * 65536) (by omega) a
    rw [show a * 16777216 = 2 ^ 24 * a by omega]; omega
  have h2 : (a * 16777216 + b * 65536) ||| c * 256 = a * 16777216 + b * 65536 + c * 256 := by
    have := Nat.two_pow_add_eq_or_of_lt (i := 16) (b := c * 256) (by omega) (a * 256 + b)
    rw [show a * 16777216 + b * 65536 = 2 ^ 16 * (a * 256 + b) by omega]; omega
  have h3 : (a * 16777216 + b * 65536 + c * 256) ||| d = a * 16777216 + b * 65536 + c * 256 + d := by
    have := Nat.two_pow_add_eq_or_of_lt (i := 8) (b := d) (by omega) (a * 65536 + b * 256 + c)
    rw [show a * 16777216 + b * 65536 + c * 256 = 2 ^ 8 * (a * 65536 + b * 256 + c) by omega]; omega
  rw [h1, h2, h3]
theorem word_go (a b c d : UInt8) : Go.bits .or .u32 (Go.bits .or .u32 (Go.bits .or .u32 ((a.toNat : Int) % 4294967296 * 16777216 % 4294967296) ((b.toNat : Int) % 4294967296 * 65536 % 4294967296)) ((c.toNat : Int) % 4294967296 * 256 % 4294967296)) ((d.toNat : Int) % 4294967296) = V (word a b c d) := by
  have ha := a.toNat_lt; have hb := b.toNat_lt; have hc := c.toNat_lt; have hd := d.toNat_lt
  have h1 := shl24 a.toNat b.toNat c.toNat d.toNat ha hb hc hd
  have o1 : (a.toNat * 16777216 ||| b.toNat * 65536) < 2 ^ 32 := Nat.or_lt_two_pow (by omega) (by omega)
  have o2 : (a.toNat * 16777216 ||| b.toNat * 65536 ||| c.toNat * 256) < 2 ^ 32 := Nat.or_lt_two_pow o1 (by omega)
  rw [show ((a.toNat : Int) % 4294967296 * 16777216 % 4294967296) = ((a.toNat * 16777216 : Nat) : Int) by omega, show ((b.toNat : Int) % 4294967296 * 65536 % 4294967296) = ((b.toNat * 65536 : Nat) : Int) by omega,
    show ((c.toNat : Int) % 4294967296 * 256 % 4294967296) = ((c.toNat * 256 : Nat) : Int) by omega, show ((d.toNat : Int) % 4294967296) = (d.toNat : Int) by omega,
    u32_or_nat _ _ (by omega) (by omega), u32_or_nat _ _ (by omega) (by omega), u32_or_nat _ _ (by omega) (by omega), h1]
  unfold word
  rw [V_of]; congr 1; omega

theorem wordAt_eq (b : List UInt8) (k : Nat) (h : 4 * k + 3 < b.length) : wordAt b k = word b[4 * k] b[4 * k + 1] b[4 * k + 2] b[4 * k + 3] := by
  unfold wordAt
  simp only [List.getD_eq_getElem?_getD]
  rw [List.getElem?_eq_getElem (by omega), List.getElem?_eq_getElem (by omega), List.getElem?_eq_getElem (by omega), List.getElem?_eq_getElem (by omega)]
  rfl
theorem sched_length (b : List UInt8) (n : Nat) : (sched b n).length = n := by
  induction n with
  | zero => rfl
  | succ n ih => simp [sched, ih]
theorem sched_get (b : List UInt8) {n i : Nat} (h : i < n) (m : Nat) (hm : i < m) : (sched b n).getD i 0 = (sched b m).getD i 0 := by
  have key : ∀ k, (sched b (i + 1 + k)).getD i 0 = (sched b (i + 1)).getD i 0 := by
    intro k
    induction k with
    | zero => rfl
    | succ k ih =>
      rw [← ih, show i + 1 + (k + 1) = (i + 1 + k) + 1 by omega]
      simp only [sched, List.getD_eq_getElem?_getD]
      rw [List.getElem?_append_left (by rw [sched_length]; omega)]
  rw [show n = i + 1 + (n - (i + 1)) by omega, show m = i + 1 + (m - (i + 1)) by omega, key, key]
/-- the j-th word -/
def WW (b : List UInt8) (j : Nat) : UInt32 := (sched b 64).getD j 0
theorem WW_eq (b : List UInt8) {j n : Nat} (hj : j < n) (h64 : j < 64) : (sched b n).getD j 0 = WW b j := sched_get b hj 64 h64
theorem sched_last (b : List UInt8) (n : Nat) : (sched b (n + 1)).getD n 0 = if n < 16 then wordAt b n else nextW (sched b n) n := by
  simp only [sched, List.getD_eq_getElem?_getD]
  rw [List.getElem?_append_right (by rw [sched_length]; omega), sched_length, Nat.sub_self]; rfl
theorem WW_first (b : List UInt8) {n : Nat} (h : n < 16) : WW b n = wordAt b n := by
  rw [← WW_eq b (Nat.lt_succ_self n) (by omega), sched_last, if_pos h]
theorem WW_next (b : List UInt8) {n : Nat} (h : 16 ≤ n) (h64 : n < 64) : WW b n = WW b (n - 16) + sig0 (WW b (n - 15)) + WW b (n - 7) + sig1 (WW b (n - 2)) := by
  rw [← WW_eq b (Nat.lt_succ_self n) (by omega), sched_last, if_neg (by omega)]
  unfold nextW
  rw [WW_eq b (by omega) (by omega), WW_eq b (by omega) (by omega), WW_eq b (by omega) (by omega), WW_eq b (by omega) (by omega)]
theorem runB_add (m n : Nat) (h : S8) (l : List UInt8) : runB (m + n) h l = runB n (runB m h l) (l.drop (64 * m)) := by
  induction m generalizing h l with
  | zero => simp [runB]
  | succ m ih =>
    rw [show m + 1 + n = (m + n) + 1 by omega]
    simp only [runB]
    rw [ih, List.drop_drop]
    congr 2; omega
theorem runB_app (n : Nat) (h : S8) (l m : List UInt8) (hn : 64 * n ≤ l.length) : runB n h (l ++ m) = runB n h l := by
  induction n generalizing h l with
  | zero => rfl
  | succ n ih =>
    simp only [runB]
    rw [List.take_append_of_le_length (by omega), List.drop_append_of_le_length (by omega), ih _ _ (by simp; omega)]

theorem out8_length (v : S8) : (out8 v).length = 32 := rfl
theorem sha_length (s : List UInt8) : (sha s).length = 32 := rfl
theorem sha_abc : sha [97, 98, 99] = [0xba, 0x78, 0x16, 0xbf, 0x8f, 0x01, 0xcf, 0xea, 0x41, 0x41, 0x40, 0xde, 0x5d, 0xae, 0x22, 0x23, 0xb0, 0x03, 0x61, 0xa3, 0x96, 0x17, 0x7a, 0x9c, 0xb4, 0x10, 0xff, 0x61, 0xf2, 0x00, 0x15, 0xad] := by
  decide +kernel
end Go.Proofs.YtjajoiahgfafgaaDoor.Plain
end
