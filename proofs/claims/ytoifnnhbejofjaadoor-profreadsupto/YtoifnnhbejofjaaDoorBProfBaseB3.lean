/- Texts joined: AppendSlice, ProfR4. -/
import Derived.Test.YtoifnnhbejofjaaDoorBProfBaseA5
import Derived.Deep.Upon
import Derived.Test.YtoifnnhbejofjaaDoorBProfBaseB1
import Derived.Test.YtoifnnhbejofjaaDoorBProfBaseA8
import Derived.Test.YtoifnnhbejofjaaDoorBProfBaseB2
import Derived.Deep.RegionWith
import Derived.Deep.RegionHeld3
set_option linter.unusedSimpArgs false
set_option linter.unusedVariables false

/- append(s, x...): a slice (it may be nil) behind a row of the call's own. -/
section
namespace Go.Proofs.YtoifnnhbejofjaaDoor
open Go.RowKit

theorem wpList_append_slice {P : Program} {w : World} {ops : Array Oper} {rest : List Oper} {o : Oper} {a : Act} {Q : Exit → Act → World → Prop} (hgd : o.guard = none) (s x : Operand) (t : TypeId)
    (ho : o.op = .call { callee := .builtin .append, args := #[s, x], argTypes := #[t, t] })
    (base : Nat) (e : TypeId) (i : TypeInfo) (z : Value) (size bytes : Nat) (ht : P.underlying t = some (.slice e)) (hi : P.info? e = some i) (hz : i.zero = some z)
    (hsize : i.size = size) (hby : i.bytes = bytes) (hzs : z.cells.size = size) (hsz : 0 < size)
    (A : Option Addr) (n cap : Nat) (xs : List Value) (hs : a.eval s = .slice A n cap) (hown : w.ownsRow base e size (.slice A n cap) n xs)
    (X : Option Addr) (m c : Nat) (news : List Value) (hx : a.eval x = .slice X m c) (hl : Reads w size X m news) (h1 : ∀ u ∈ news, u.oneCell' = true)
    (h63 : n + m ≤ maxLen) (hbytes : (n + m) * bytes ≤ 140737488355328) (hbase : base ≤ w.heap.size)
    (h : ∀ A' cap' w', w'.ownsRow base e size (.slice A' (n + m) cap') (n + m) (xs ++ news) → w.grownBy w' (Value.slice A n cap).ownBlock → wpList P ops Q rest (a.put o.dst (.slice A' (n + m) cap')) w') : wpList P ops Q (o :: rest) a w := by
  cases X with
  | none =>
    have hm : m = 0 := by
      rcases Nat.eq_zero_or_pos m with h0 | h0
      · exact h0
      · obtain ⟨ad, e, -⟩ := hl.2 h0; cases e
    subst hm
    have hn : news = [] := List.eq_nil_of_length_eq_zero (by have := hl.1; simpa using this)
    subst hn
    have hle : n ≤ cap := by
      rcases hown.2 with ⟨hv, h0⟩ | ⟨g, cp, cur, hv, _, _, hc, _⟩
      · omega
      · injection hv with h1 h2 h3; omega
    have hr := run_append_nothing w t t o.type e i ht hi A n cap hle (.slice none 0 c) (Src.ofNil w ht c)
    have h2 := h A cap w (by rw [List.append_nil]; exact hown) (gb_refl w _)
    refine wpList_plain hgd fun _ hK => ?_
    unfold Oper.wp execOp
    simp only [ho, resolve, invoke, builtin, Sem.run_bind, Sem.run_pure, Result.andThen_ok, List.map_toArray, List.map_cons, List.map_nil, hs, hx, hr]
    exact hK _ _ h2
  | some ad =>
    by_cases hm : 0 < m
    · obtain ⟨ad', e1, hc⟩ := hl.2 hm
      injection e1 with e1
      subst e1
      refine wpList_append_two hgd s x t ho base e i z size bytes ht hi hz hsize hby hzs hsz _ n xs hs hown ad m c news hx hl.1 hc h1 h63 hbytes hbase fun v' w' h2 h3 _ => ?_
      obtain ⟨A', c', rfl, -⟩ := IsSlice.of_own h2
      exact h A' c' w' h2 h3
    · have hm0 : m = 0 := by omega
      subst hm0
      have hn : news = [] := List.eq_nil_of_length_eq_zero (by have := hl.1; simpa using this)
      subst hn
      refine wpList_append_two hgd s x t ho base e i z size bytes ht hi hz hsize hby hzs hsz _ n xs hs hown ad 0 c [] hx (by simp) (fun j u hu => by simp at hu) h1 h63 hbytes hbase fun v' w' h2 h3 _ => ?_
      obtain ⟨A', c', rfl, -⟩ := IsSlice.of_own h2
      exact h A' c' w' h2 h3
end Go.Proofs.YtoifnnhbejofjaaDoor
end

/- The document's lines of a profile. -/
section
set_option linter.unusedVariables false
namespace Go.Proofs.YtoifnnhbejofjaaDoor
open Go.RowKit Plain

theorem results_rowP_tmp {P : Program} {fn : Func} {p u : Tmp} {ty : TypeId} (h : fn.results = #[.cell p ty, .tmp u]) (tmps : Array Value) (w : World) (g : Nat) (t : TypeId) (cs : Array Value) (fr : Nat × Nat) (d : TypeDesc)
    (hp : tmps.getD p undef = .pointer (some ⟨g, 0, none⟩)) (hg : w.heap[g]? = some (.cells cs t fr))
    (hu : P.underlying ty = some d) (hd : (match d with | .struct _ | .array _ _ => true | _ => false) = true) (hi : (P.info? ty).map (·.size) = some cs.size) :
    (results fn tmps).run P w = .ok (.tuple #[.agg cs, tmps.getD u undef]) w := by
  rw [results_cell_tmp h, hp]
  simp [asAddr, run_loadVar_row w g t ty cs fr d hg hu hd hi, Result.andThen]

/-- The block there has elements of a type. -/
def Tg (w : World) (t : TypeId) (A : Option Addr) : Prop := ∀ a, A = some a → ∃ C fr, w.heap[a.block]? = some (.cells C t fr)
theorem Tg.below {w w' : World} {t : TypeId} {A : Option Addr} (h : Tg w t A) (hb : Below w.heap.size w w') : Tg w' t A := fun a ha => by
  obtain ⟨C, fr, h2⟩ := h a ha
  exact ⟨C, fr, (hb.block _ (Array.getElem?_eq_some_iff.1 h2).1).trans h2⟩
theorem Tg.only {w w' : World} {S : Nat → Prop} {t : TypeId} {A : Option Addr} (h : Tg w t A) (ho : Only S w w') (hA : ∀ a, A = some a → ¬ S a.block) : Tg w' t A := fun a ha => by
  obtain ⟨C, fr, h2⟩ := h a ha
  exact ⟨C, fr, (ho.block _ (Array.getElem?_eq_some_iff.1 h2).1 (hA a ha)).trans h2⟩
theorem Tg.own {w : World} {base : Nat} {e : TypeId} {size n k c : Nat} {A : Option Addr} {xs : List Value} (h : w.ownsRow base e size (.slice A k c) n xs) : Tg w e A := fun a ha => by
  subst ha
  rcases h.2 with ⟨hv, _⟩ | ⟨g, cap, cur, hv, _, hh, _⟩
  · cases hv
  · injection hv with h1 _ _
    injection h1 with h1
    subst h1
    exact ⟨_, _, hh⟩
theorem IsRows.only {w w' : World} {S : Nat → Prop} {n : Nat} {A : Option Addr} {rows : List (List Value)} (h : IsRows w n A rows) (ho : Only S w w') (hA : ∀ a, A = some a → ¬ S a.block) : IsRows w' n A rows := by
  intro k hk
  obtain ⟨ad, hAd, hc⟩ := h k hk
  refine ⟨ad, hAd, fun j u hu => ?_⟩
  have h1 := hc j u hu
  have hlt := World.block_lt_of_cell? _ _ h1
  have hb : (ad.add (k * n + j)).block = ad.block := block_of_add _ _
  rw [← h1]
  unfold World.cell?
  rw [ho.block _ hlt (by rw [hb]; exact hA ad hAd)]
structure PfAtT (w : World) (A0 : Option Addr) (c0 : Nat) (A1 : Option Addr) (c1 : Nat) (A2 : Option Addr) (c2 : Nat) (p : PF) : Prop extends PfAt w A0 c0 A1 c1 A2 c2 p where
  tag : Tg w 67 A0 ∧ Tg w 67 A1 ∧ Tg w 54 A2
theorem PfAtT.below {w w' : World} {A0 A1 A2 : Option Addr} {c0 c1 c2 : Nat} {p : PF} (h : PfAtT w A0 c0 A1 c1 A2 c2 p) (hb : Below w.heap.size w w') : PfAtT w' A0 c0 A1 c1 A2 c2 p :=
  ⟨h.toPfAt.below hb, h.tag.1.below hb, h.tag.2.1.below hb, h.tag.2.2.below hb⟩
theorem PfAtT.only {w w' : World} {S : Nat → Prop} {A0 A1 A2 : Option Addr} {c0 c1 c2 : Nat} {p : PF} (h : PfAtT w A0 c0 A1 c1 A2 c2 p) (ho : Only S w w') (hS : ∀ k, S k → ∃ C t fr, w.heap[k]? = some (.cells C t fr) ∧ t ≠ 67 ∧ t ≠ 54) : PfAtT w' A0 c0 A1 c1 A2 c2 p := by
  have n0 : ∀ {A : Option Addr}, Tg w 67 A → ∀ a, A = some a → ¬ S a.block := fun hT a ha hs => by
    obtain ⟨C, fr, h1⟩ := hT a ha
    obtain ⟨C', t, fr', h2, h3, _⟩ := hS _ hs
    rw [h1] at h2
    injection h2 with h2
    injection h2 with _ h2 _
    exact h3 h2.symm
  have n2 : ∀ {A : Option Addr}, Tg w 54 A → ∀ a, A = some a → ¬ S a.block := fun hT a ha hs => by
    obtain ⟨C, fr, h1⟩ := hT a ha
    obtain ⟨C', t, fr', h2, _, h3⟩ := hS _ hs
    rw [h1] at h2
    injection h2 with h2
    injection h2 with _ h2 _
    exact h3 h2.symm
  exact ⟨⟨h.ign.only ho (n0 h.tag.1), h.bak.only ho (n0 h.tag.2.1), h.mrg.only ho (n2 h.tag.2.2), h.cap, h.len⟩, h.tag.1.only ho (n0 h.tag.1), h.tag.2.1.only ho (n0 h.tag.2.1), h.tag.2.2.only ho (n2 h.tag.2.2)⟩
theorem pf0_atT (w : World) : PfAtT w none 0 none 0 none 0 PF0 := ⟨pf0_at w, (fun a h => by cases h), (fun a h => by cases h), (fun a h => by cases h)⟩

/-- Two blocks that are new: a profile's, and the result's. -/
structure Bx (w : World) (vi vb vm : Value) (p : PF) (W : World) : Prop where
  head : W.heap[w.heap.size]? = some (.cells #[vi, vb, vm, .int .i64 p.pre, .int .i64 p.frc, .bool p.bat, .bool p.fst] 27 (0, 0))
  res : W.heap[w.heap.size + 1]? = some (.cells #[.slice none 0 0, .slice none 0 0, .slice none 0 0, .int .i64 0, .int .i64 0, .bool false, .bool false] 27 (0, 0))
  below : Below w.heap.size w W
  size : w.heap.size + 2 ≤ W.heap.size
section
variable {w W W' : World} {vi vb vm : Value} {p : PF}
theorem Bx.on (h : Bx w vi vb vm p W) (hb : Below W.heap.size W W') : Bx w vi vb vm p W' :=
  ⟨(hb.block _ (by have := h.size; omega)).trans h.head, (hb.block _ (by have := h.size; omega)).trans h.res, h.below.trans (hb.mono h.below.size), Nat.le_trans h.size hb.size⟩
theorem Bx.on2 {B : Nat} (h : Bx w vi vb vm p W) (hb : Below B W W') (hB : w.heap.size + 2 ≤ B) : Bx w vi vb vm p W' :=
  ⟨(hb.block _ (by omega)).trans h.head, (hb.block _ (by omega)).trans h.res, h.below.trans (hb.mono (by omega)), Nat.le_trans h.size hb.size⟩
theorem Bx.put (h : Bx w vi vb vm p W) {i : Nat} {u vi' vb' vm' : Value} {p' : PF} (hc : (#[vi, vb, vm, .int .i64 p.pre, .int .i64 p.frc, .bool p.bat, .bool p.fst] : Array Value).setIfInBounds i u = #[vi', vb', vm', .int .i64 p'.pre, .int .i64 p'.frc, .bool p'.bat, .bool p'.fst]) :
    Bx w vi' vb' vm' p' (W.setCell ⟨w.heap.size, i, none⟩ u) :=
  ⟨by rw [heap_set h.head, hc], (Below.heap_setCell _ _ _ _ (show w.heap.size + 1 ≠ w.heap.size by omega)).trans h.res, h.below.setCell (p := ⟨w.heap.size, i, none⟩) (Nat.le_refl _) u, by simpa [World.setCell] using h.size⟩
theorem Bx.cells (h : Bx w vi vb vm p W) : W.cell? ⟨w.heap.size, 0, none⟩ = some vi ∧ W.cell? ⟨w.heap.size, 1, none⟩ = some vb ∧ W.cell? ⟨w.heap.size, 2, none⟩ = some vm ∧ W.cell? ⟨w.heap.size, 3, none⟩ = some (.int .i64 p.pre) ∧ W.cell? ⟨w.heap.size, 4, none⟩ = some (.int .i64 p.frc) ∧ W.cell? ⟨w.heap.size, 5, none⟩ = some (.bool p.bat) ∧ W.cell? ⟨w.heap.size, 6, none⟩ = some (.bool p.fst) :=
  ⟨cell_of_row _ _ 0 _ _ _ h.head, cell_of_row _ _ 1 _ _ _ h.head, cell_of_row _ _ 2 _ _ _ h.head, cell_of_row _ _ 3 _ _ _ h.head, cell_of_row _ _ 4 _ _ _ h.head, cell_of_row _ _ 5 _ _ _ h.head, cell_of_row _ _ 6 _ _ _ h.head⟩
theorem Bx.soft (h : Bx w vi vb vm p W) (i : Nat) : W.frozen? ⟨w.heap.size, i, none⟩ = false := frozen_of_row _ _ i _ _ h.head
theorem Bx.rcells (h : Bx w vi vb vm p W) : W.cell? ⟨w.heap.size + 1, 0, none⟩ = some (.slice none 0 0) ∧ W.cell? ⟨w.heap.size + 1, 1, none⟩ = some (.slice none 0 0) ∧ W.cell? ⟨w.heap.size + 1, 2, none⟩ = some (.slice none 0 0) ∧ W.cell? ⟨w.heap.size + 1, 3, none⟩ = some (.int .i64 0) ∧ W.cell? ⟨w.heap.size + 1, 4, none⟩ = some (.int .i64 0) ∧ W.cell? ⟨w.heap.size + 1, 5, none⟩ = some (.bool false) ∧ W.cell? ⟨w.heap.size + 1, 6, none⟩ = some (.bool false) :=
  ⟨cell_of_row _ _ 0 _ _ _ h.res, cell_of_row _ _ 1 _ _ _ h.res, cell_of_row _ _ 2 _ _ _ h.res, cell_of_row _ _ 3 _ _ _ h.res, cell_of_row _ _ 4 _ _ _ h.res, cell_of_row _ _ 5 _ _ _ h.res, cell_of_row _ _ 6 _ _ _ h.res⟩
theorem Bx.rsoft (h : Bx w vi vb vm p W) (i : Nat) : W.frozen? ⟨w.heap.size + 1, i, none⟩ = false := frozen_of_row _ _ i _ _ h.res
/-- The result's block filled. -/
def fillR (w W : World) (vi vb vm : Value) (p : PF) : World :=
  ((((((W.setCell ⟨w.heap.size + 1, 0, none⟩ vi).setCell ⟨w.heap.size + 1, 1, none⟩ vb).setCell ⟨w.heap.size + 1, 2, none⟩ vm).setCell ⟨w.heap.size + 1, 3, none⟩ (.int .i64 p.pre)).setCell ⟨w.heap.size + 1, 4, none⟩ (.int .i64 p.frc)).setCell ⟨w.heap.size + 1, 5, none⟩ (.bool p.bat)).setCell ⟨w.heap.size + 1, 6, none⟩ (.bool p.fst)
theorem Bx.fill (h : Bx w vi vb vm p W) : (fillR w W vi vb vm p).heap[w.heap.size + 1]? = some (.cells #[vi, vb, vm, .int .i64 p.pre, .int .i64 p.frc, .bool p.bat, .bool p.fst] 27 (0, 0)) ∧ Below w.heap.size w (fillR w W vi vb vm p) ∧ Only (fun k => k = w.heap.size + 1) W (fillR w W vi vb vm p) :=
  ⟨set_row7 h.res, below_row7 h.below (by omega), only_row7 (Only.refl _ _) rfl⟩
end

/-- What a line tells the document. -/
def RSaysOut (w : World) (r : Option PF) (e : Ending) (w' : World) : Prop :=
  ∃ A0 c0 A1 c1 A2 c2 p', e = .returned (.tuple #[pfV A0 c0 A1 c1 A2 c2 p', .bool r.isSome]) ∧ PfAtT w' A0 c0 A1 c1 A2 c2 p' ∧ Below w.heap.size w w' ∧ ∀ q, r = some q → p' = q
theorem still_drew (w : World) : Below w.heap.size w w.drew := ⟨rfl, rfl, rfl, Nat.le_refl _, fun _ _ => rfl⟩
theorem own_two (w : World) {W : World} {base : Nat} {e : TypeId} {size n : Nat} {v : Value} {xs : List Value} (h : W.ownsRow base e size v n xs) (hb : w.heap.size + 2 ≤ base) {W' : World} (ho : Only (fun k => k = w.heap.size ∨ k = w.heap.size + 1) W W') : W'.ownsRow base e size v n xs :=
  own_only h ho (fun k hk e => by have := (h.lt k hk).1; omega)
theorem Short.ofs {p q : PF} {w a : List UInt8} (h : saysP p w a = some q) (hp : Short p) : Short q := says_len h hp

section
variable {A0 A1 A2 : Option Addr} {c0 c1 c2 : Nat} {p : PF} {w : World}
theorem box_start (p : PF) (vi vb vm : Value) (w : World) : Bx w vi vb vm p ((w.alloc (.cells #[vi, vb, vm, .int .i64 p.pre, .int .i64 p.frc, .bool p.bat, .bool p.fst] 27)).alloc (.cells #[.slice none 0 0, .slice none 0 0, .slice none 0 0, .int .i64 0, .int .i64 0, .bool false, .bool false] 27)) := by
  refine ⟨?_, ?_, ?_, ?_⟩
  · rw [Below.heap_alloc _ _ _ (by simp)]; exact heap_alloc_new _ _
  · have := heap_alloc_new (w.alloc (.cells #[vi, vb, vm, .int .i64 p.pre, .int .i64 p.frc, .bool p.bat, .bool p.fst] 27)) (.cells #[.slice none 0 0, .slice none 0 0, .slice none 0 0, .int .i64 0, .int .i64 0, .bool false, .bool false] 27)
    simpa using this
  · exact ((Below.refl w.heap.size w).alloc (Nat.le_refl _) _).alloc (by simp) _
  · simp

theorem rows_readsP {α : Type} {enc : α → List Value} {m : Nat} (h0m : 0 < m) (hm : ∀ x, (enc x).length = m) {w : World} {A : Option Addr} {l : List α} (h : IsRows w m A (l.map enc)) : Reads w m A l.length (rowsE enc l) := by
  refine ⟨by rw [rowsE_length hm], fun h0 => ?_⟩
  obtain ⟨ad, hA, _⟩ := h 0 (by simpa using h0)
  refine ⟨ad, hA, fun j u hj => ?_⟩
  have hjl : j < l.length * m := by
    have := (List.getElem?_eq_some_iff.1 hj).1; rwa [rowsE_length hm] at this
  have hd : j / m < l.length := Nat.div_lt_of_lt_mul (by rw [Nat.mul_comm]; exact hjl)
  have hr : j % m < m := Nat.mod_lt _ h0m
  have he : j / m * m + j % m = j := by rw [Nat.mul_comm]; exact Nat.div_add_mod j m
  obtain ⟨ad', hA', hc⟩ := h (j / m) (by simpa using hd)
  rw [hA] at hA'
  injection hA' with hA'
  subst hA'
  have hg := rowsE_get hm l (j / m) hd (j % m) hr
  rw [he, hj] at hg
  have := hc (j % m) u (by rw [List.getElem_map]; exact hg.symm)
  rwa [he] at this
theorem empty_ownP (w : World) (t : TypeId) (size : Nat) : (w.alloc (.cells #[] t)).ownsRow w.heap.size t size (.slice (some ⟨w.heap.size, 0, none⟩) 0 0) 0 [] :=
  World.ownsRow_made w #[] 0 (Nat.le_refl _) (Nat.zero_le _) (by simp)
theorem rulV_oneCell (x : Rule) : ∀ u ∈ rulV x, u.oneCell' = true := by intro u hu; simp [rulV] at hu; rcases hu with rfl | rfl <;> rfl
theorem pgmV_oneCell (x : Prg) : ∀ u ∈ pgmV x, u.oneCell' = true := by intro u hu; simp [pgmV] at hu; rcases hu with rfl | rfl <;> rfl

set_option maxHeartbeats 8000000 in
set_option maxRecDepth 100000 in
theorem rsays_ign (wd a : List UInt8) (hw : wd = wIgnore ∨ wd = wKeep) (h : PfAtT w A0 c0 A1 c1 A2 c2 p) (hsh : Short p) (ha : a.length ≤ 4294967280) :
    Calls Tryd.prog 38 #[pfV A0 c0 A1 c1 A2 c2 p, .string ⟨wd.toArray⟩, .string ⟨a.toArray⟩] w (RSaysOut w (saysP p wd a)) := by
  obtain ⟨r, hr⟩ : ∃ r, saysP p wd a = r := ⟨_, rfl⟩
  rw [hr]
  obtain ⟨W0, hW0⟩ : ∃ W0, (w.alloc (.cells #[.slice A0 p.ign.length c0, .slice A1 p.bak.length c1, .slice A2 p.mrg.length c2, .int .i64 p.pre, .int .i64 p.frc, .bool p.bat, .bool p.fst] 27)).alloc (.cells #[.slice none 0 0, .slice none 0 0, .slice none 0 0, .int .i64 0, .int .i64 0, .bool false, .bool false] 27) = W0 := ⟨_, rfl⟩
  have HX0 := Lib.hid (show Bx w (.slice A0 p.ign.length c0) (.slice A1 p.bak.length c1) (.slice A2 p.mrg.length c2) p W0 by rw [← hW0]; exact box_start p _ _ _ w)
  have HW0 := Lib.hid hW0
  have HP := Lib.hid h
  have HS := Lib.hid hsh
  clear hW0
  unfold pfV
  have HCK := Lib.hid (fun W => Check_ref a W)
  obtain ⟨g, hg⟩ : ∃ g, decide (wd = wIgnore) = g := ⟨_, rfl⟩
  have HSAY : Hid (r = if (checkP 400 a).2 = 0 ∧ p.ign.length < 100 then some { p with ign := p.ign ++ [⟨a, g⟩] } else none) := Lib.hid (by
    rw [← hr, ← hg]; unfold saysP okPat; rw [if_pos hw]; simp only [decide_eq_true_eq])
  generalize (checkP 400 a).1 = ck1 at *
  generalize (checkP 400 a).2 = ck2 at *
  clear hr h hsh ha
  rcases hw with rfl | rfl
  · obtain rfl : g = true := by rw [← hg]; exact decide_eq_true rfl
    clear hg
    unfold wIgnore
    go_enter Tryd.func38, Tryd.ntmps38
    go_upto_region 1 with (fail)
    rw [HW0.out]
    go_wp2_with (fail)
    refine (HCK.out _).mono ?_
    rintro e w1 ⟨rfl, hw1⟩
    have HX1 := Lib.hid (HX0.out.on hw1)
    clear hw1
    by_cases hck : ck2 = 0
    · have gck : ((ck2 : Int) != 0) = false := by rw [bne_eq_false_iff_eq]; omega
      have HSAY2 := Lib.hid (HSAY.out)
      obtain ⟨it0, hi1, hy0, hy1, hy2⟩ := info_parts info_rule
      have HIN := Lib.hid hi1
      obtain ⟨p0, p1, p2, p3, p4, p5, p6⟩ := HX1.out.cells
      have hs2 := HX1.out.size
      have hl2 : w.heap.size < w1.heap.size := by omega
      have HRD := Lib.hid (rows_readsP (by decide) rulV_length (HP.out.ign.below HX1.out.below))
      have hlen := HS.out.1
      clear hi1
      go_wp2_with (at_builtin; refine wpList_append_slice rfl _ _ 24 rfl w1.heap.size 67 it0 _ 2 24 Tryd.underlying24 HIN.out hy0 hy1 hy2 rfl (by decide) (some ⟨w1.heap.size, 0, none⟩) 0 0 [] rfl (empty_ownP w1 67 2) A0 p.ign.length c0 (rowsE rulV p.ign) rfl (HRD.out.below ((Below.refl _ _).alloc (Nat.le_refl _) _)) (rowsE_oneCell rulV_oneCell p.ign) ?x3true ?x4true ?x5true ?_)
      case x3true => unfold maxLen; omega
      case x4true => omega
      all_goals try (first | exact Nat.le_refl _ | (simp; done))
      intro Aa ca w2 hown2 hg2
      have hb2 : Below w1.heap.size w1 w2 := ((Below.refl _ _).alloc (Nat.le_refl _) _).grown hg2 (by simp) (fun k hk => by
        have hk' : w1.heap.size = k := by injection hk
        omega)
      try simp only [Nat.zero_add, List.nil_append] at hown2
      have HX2 := Lib.hid (HX1.out.on hb2)
      have HO2 := Lib.hid hown2
      have hs3 := hb2.size
      clear hown2 hg2 p0 p1 p2 p3 p4 p5 p6 HRD
      go_wp2_with (at_builtin; refine wpList_append_two rfl _ _ 24 rfl w1.heap.size 67 it0 _ 2 24 Tryd.underlying24 HIN.out hy0 hy1 hy2 rfl (by decide) _ _ _ rfl (HO2.out.alloc _) ⟨w2.heap.size, 0, none⟩ 1 1 [.bool true, .string ⟨a.toArray⟩] rfl rfl (laid_cells w2 _ _) (by intro u hu; simp at hu; rcases hu with rfl | rfl <;> rfl) ?y3true ?y4true ?y5true ?_)
      case y3true => unfold maxLen; omega
      case y4true => omega
      case y5true => first | omega | (simp; omega)
      intro v3 w3 hown3 hg3 hl3
      obtain ⟨A5, c5, rfl, hc51, hc52, -⟩ := IsSlice.of_own hown3
      have HCC := Lib.hid (And.intro hc51 hc52)
      have hb3 : Below w1.heap.size w1 w3 := (hb2.alloc hb2.size _).grown hg3 (by simp; omega) (fun k hk => (HO2.out.lt k hk).1)
      have HX3 := Lib.hid (HX1.out.on hb3)
      have HO3 := Lib.hid (show w3.ownsRow w1.heap.size 67 2 (.slice A5 (p.ign.length + 1) c5) (p.ign.length + 1) (rowsE rulV (p.ign ++ [⟨a, true⟩])) by rw [rowsE_append, rowsE_one]; exact hown3)
      have p0 := HX3.out.cells.1
      have zz := HX3.out.soft 0
      obtain ⟨Wd, hWd⟩ : ∃ Wd, w3.setCell ⟨w.heap.size, 0, none⟩ (.slice A5 (p.ign.length + 1) c5) = Wd := ⟨_, rfl⟩
      have HWD := Lib.hid hWd
      have HBX : Hid (Bx w (.slice A5 (p.ign.length + 1) c5) (.slice A1 p.bak.length c1) (.slice A2 p.mrg.length c2) { p with ign := p.ign ++ [⟨a, true⟩] } Wd) := Lib.hid (hWd ▸ HX3.out.put rfl)
      have HLE := Lib.hid hs2
      have HOD : Hid (Wd.ownsRow w1.heap.size 67 2 (.slice A5 (p.ign.length + 1) c5) (p.ign.length + 1) (rowsE rulV (p.ign ++ [⟨a, true⟩]))) := Lib.hid (own_two w HO3.out HLE.out (hWd ▸ ((only_cell w3 w.heap.size 0 _).mono (fun k hk => Or.inl hk))))
      have HPV : Hid (pfV A5 c5 A1 c1 A2 c2 { p with ign := p.ign ++ [⟨a, true⟩] } = .agg #[.slice A5 (p.ign.length + 1) c5, .slice A1 p.bak.length c1, .slice A2 p.mrg.length c2, .int .i64 p.pre, .int .i64 p.frc, .bool p.bat, .bool p.fst]) := Lib.hid (by unfold pfV; simp only [List.length_append, List.length_singleton])
      clear hown3 hg3 hl3 hb2 hb3 HX1 HX2 HO2 HX3 HO3 hWd hc51 hc52
      go_upto_region 18 with (fail)
      rw [HWD.out]
      clear p0 zz HWD
      by_cases h100 : p.ign.length < 100
      · have g100 : decide ((p.ign.length : Int) + 1 ≤ 100) = true := by rw [decide_eq_true_eq]; omega
        have HSAY3 := Lib.hid (HSAY2.out.trans (if_pos ⟨hck, h100⟩))
        clear hck h100 HSAY HSAY2
        obtain ⟨p0, p1, p2, p3, p4, p5, p6⟩ := HBX.out.cells
        obtain ⟨q0, q1, q2, q3, q4, q5, q6⟩ := HBX.out.rcells
        have z1 := HBX.out.rsoft
        obtain ⟨WZ, hWZ⟩ : ∃ WZ, fillR w Wd (.slice A5 (p.ign.length + 1) c5) (.slice A1 p.bak.length c1) (.slice A2 p.mrg.length c2) { p with ign := p.ign ++ [⟨a, true⟩] } = WZ := ⟨_, rfl⟩
        have HF := Lib.hid (hWZ ▸ HBX.out.fill)
        have HPZ : Hid (PfAtT WZ A5 c5 A1 c1 A2 c2 { p with ign := p.ign ++ [⟨a, true⟩] }) := Lib.hid (by
          have hbz := hWZ ▸ HBX.out.fill.2.1
          have hoz : Only (fun k => k = w.heap.size ∨ k = w.heap.size + 1) Wd WZ := hWZ ▸ (HBX.out.fill.2.2.mono (fun k hk => .inr hk))
          have HRW : Hid (IsRows WZ 2 A5 (List.map rulV (p.ign ++ [(⟨a, true⟩ : Rule)]))) := Lib.hid (own_rowsP rulV_length (own_two w HOD.out HLE.out hoz) (by simp))
          exact ⟨⟨HRW.out, HP.out.bak.below hbz, HP.out.mrg.below hbz, ⟨by simp; exact HCC.out.1, HP.out.cap.2.1, HP.out.cap.2.2⟩, ⟨HCC.out.2, HP.out.len.2.1, HP.out.len.2.2⟩⟩, Tg.own (own_two w HOD.out HLE.out hoz), HP.out.tag.2.1.below hbz, HP.out.tag.2.2.below hbz⟩)
        have HWZ := Lib.hid (show _ = WZ from hWZ)
        clear hWZ
        unfold fillR at HWZ
        go_wp2_with (fail)
        go_region
        go_wp2_with (fail)
        rw [HWZ.out]
        refine bodyPost_ret (results_rowP_tmp Tryd.results38 _ WZ.drew (w.heap.size + 1) 27 _ (0, 0) _ rfl HF.out.1 Tryd.underlying27 rfl size_pf) rfl ?_
        exact ⟨_, _, _, _, _, _, { p with ign := p.ign ++ [⟨a, true⟩] }, by rw [HSAY3.out, HPV.out]; rfl, HPZ.out.below (still_drew _), HF.out.2.1.trans ((still_drew _).mono HF.out.2.1.size), fun q hq => by rw [HSAY3.out] at hq; injection hq⟩
      · have g100 : decide ((p.ign.length : Int) + 1 ≤ 100) = false := by rw [decide_eq_false_iff_not]; omega
        have HSAY3 := Lib.hid (HSAY2.out.trans (if_neg (fun h => h100 h.2)))
        clear hck h100 HSAY HSAY2
        obtain ⟨p0, p1, p2, p3, p4, p5, p6⟩ := HBX.out.cells
        obtain ⟨q0, q1, q2, q3, q4, q5, q6⟩ := HBX.out.rcells
        have z1 := HBX.out.rsoft
        obtain ⟨WZ, hWZ⟩ : ∃ WZ, fillR w Wd (.slice A5 (p.ign.length + 1) c5) (.slice A1 p.bak.length c1) (.slice A2 p.mrg.length c2) { p with ign := p.ign ++ [⟨a, true⟩] } = WZ := ⟨_, rfl⟩
        have HF := Lib.hid (hWZ ▸ HBX.out.fill)
        have HPZ : Hid (PfAtT WZ A5 c5 A1 c1 A2 c2 { p with ign := p.ign ++ [⟨a, true⟩] }) := Lib.hid (by
          have hbz := hWZ ▸ HBX.out.fill.2.1
          have hoz : Only (fun k => k = w.heap.size ∨ k = w.heap.size + 1) Wd WZ := hWZ ▸ (HBX.out.fill.2.2.mono (fun k hk => .inr hk))
          have HRW : Hid (IsRows WZ 2 A5 (List.map rulV (p.ign ++ [(⟨a, true⟩ : Rule)]))) := Lib.hid (own_rowsP rulV_length (own_two w HOD.out HLE.out hoz) (by simp))
          exact ⟨⟨HRW.out, HP.out.bak.below hbz, HP.out.mrg.below hbz, ⟨by simp; exact HCC.out.1, HP.out.cap.2.1, HP.out.cap.2.2⟩, ⟨HCC.out.2, HP.out.len.2.1, HP.out.len.2.2⟩⟩, Tg.own (own_two w HOD.out HLE.out hoz), HP.out.tag.2.1.below hbz, HP.out.tag.2.2.below hbz⟩)
        have HWZ := Lib.hid (show _ = WZ from hWZ)
        clear hWZ
        unfold fillR at HWZ
        go_wp2_with (fail)
        go_region
        go_wp2_with (fail)
        rw [HWZ.out]
        refine bodyPost_ret (results_rowP_tmp Tryd.results38 _ WZ.drew (w.heap.size + 1) 27 _ (0, 0) _ rfl HF.out.1 Tryd.underlying27 rfl size_pf) rfl ?_
        exact ⟨_, _, _, _, _, _, { p with ign := p.ign ++ [⟨a, true⟩] }, by rw [HSAY3.out, HPV.out]; rfl, HPZ.out.below (still_drew _), HF.out.2.1.trans ((still_drew _).mono HF.out.2.1.size), fun q hq => by rw [HSAY3.out] at hq; cases hq⟩
    · have gck : ((ck2 : Int) != 0) = true := by rw [bne_iff_ne]; omega
      have HSAY2 := Lib.hid (HSAY.out.trans (if_neg (fun h => hck h.1)))
      clear hck HSAY
      obtain ⟨p0, p1, p2, p3, p4, p5, p6⟩ := HX1.out.cells
      obtain ⟨q0, q1, q2, q3, q4, q5, q6⟩ := HX1.out.rcells
      have z1 := HX1.out.rsoft
      obtain ⟨WZ, hWZ⟩ : ∃ WZ, fillR w w1 (.slice A0 p.ign.length c0) (.slice A1 p.bak.length c1) (.slice A2 p.mrg.length c2) p = WZ := ⟨_, rfl⟩
      have HF := Lib.hid (hWZ ▸ HX1.out.fill)
      have HPZ : Hid (PfAtT WZ A0 c0 A1 c1 A2 c2 p) := Lib.hid (by
        exact HP.out.below (hWZ ▸ HX1.out.fill.2.1))
      have HWZ := Lib.hid (show _ = WZ from hWZ)
      clear hWZ
      unfold fillR at HWZ
      go_wp2_with (fail)
      rw [HWZ.out]
      refine bodyPost_ret (results_rowP_tmp Tryd.results38 _ WZ (w.heap.size + 1) 27 _ (0, 0) _ rfl HF.out.1 Tryd.underlying27 rfl size_pf) rfl ?_
      exact ⟨_, _, _, _, _, _, p, by rw [HSAY2.out]; rfl, HPZ.out, HF.out.2.1, fun q hq => by rw [HSAY2.out] at hq; cases hq⟩
  · obtain rfl : g = false := by rw [← hg]; decide
    clear hg
    unfold wKeep
    go_enter Tryd.func38, Tryd.ntmps38
    go_upto_region 1 with (fail)
    rw [HW0.out]
    go_wp2_with (fail)
    refine (HCK.out _).mono ?_
    rintro e w1 ⟨rfl, hw1⟩
    have HX1 := Lib.hid (HX0.out.on hw1)
    clear hw1
    by_cases hck : ck2 = 0
    · have gck : ((ck2 : Int) != 0) = false := by rw [bne_eq_false_iff_eq]; omega
      have HSAY2 := Lib.hid (HSAY.out)
      obtain ⟨it0, hi1, hy0, hy1, hy2⟩ := info_parts info_rule
      have HIN := Lib.hid hi1
      obtain ⟨p0, p1, p2, p3, p4, p5, p6⟩ := HX1.out.cells
      have hs2 := HX1.out.size
      have hl2 : w.heap.size < w1.heap.size := by omega
      have HRD := Lib.hid (rows_readsP (by decide) rulV_length (HP.out.ign.below HX1.out.below))
      have hlen := HS.out.1
      clear hi1
      go_wp2_with (at_builtin; refine wpList_append_slice rfl _ _ 24 rfl w1.heap.size 67 it0 _ 2 24 Tryd.underlying24 HIN.out hy0 hy1 hy2 rfl (by decide) (some ⟨w1.heap.size, 0, none⟩) 0 0 [] rfl (empty_ownP w1 67 2) A0 p.ign.length c0 (rowsE rulV p.ign) rfl (HRD.out.below ((Below.refl _ _).alloc (Nat.le_refl _) _)) (rowsE_oneCell rulV_oneCell p.ign) ?x3false ?x4false ?x5false ?_)
      case x3false => unfold maxLen; omega
      case x4false => omega
      all_goals try (first | exact Nat.le_refl _ | (simp; done))
      intro Aa ca w2 hown2 hg2
      have hb2 : Below w1.heap.size w1 w2 := ((Below.refl _ _).alloc (Nat.le_refl _) _).grown hg2 (by simp) (fun k hk => by
        have hk' : w1.heap.size = k := by injection hk
        omega)
      try simp only [Nat.zero_add, List.nil_append] at hown2
      have HX2 := Lib.hid (HX1.out.on hb2)
      have HO2 := Lib.hid hown2
      have hs3 := hb2.size
      clear hown2 hg2 p0 p1 p2 p3 p4 p5 p6 HRD
      go_wp2_with (at_builtin; refine wpList_append_two rfl _ _ 24 rfl w1.heap.size 67 it0 _ 2 24 Tryd.underlying24 HIN.out hy0 hy1 hy2 rfl (by decide) _ _ _ rfl (HO2.out.alloc _) ⟨w2.heap.size, 0, none⟩ 1 1 [.bool false, .string ⟨a.toArray⟩] rfl rfl (laid_cells w2 _ _) (by intro u hu; simp at hu; rcases hu with rfl | rfl <;> rfl) ?y3false ?y4false ?y5false ?_)
      case y3false => unfold maxLen; omega
      case y4false => omega
      case y5false => first | omega | (simp; omega)
      intro v3 w3 hown3 hg3 hl3
      obtain ⟨A5, c5, rfl, hc51, hc52, -⟩ := IsSlice.of_own hown3
      have HCC := Lib.hid (And.intro hc51 hc52)
      have hb3 : Below w1.heap.size w1 w3 := (hb2.alloc hb2.size _).grown hg3 (by simp; omega) (fun k hk => (HO2.out.lt k hk).1)
      have HX3 := Lib.hid (HX1.out.on hb3)
      have HO3 := Lib.hid (show w3.ownsRow w1.heap.size 67 2 (.slice A5 (p.ign.length + 1) c5) (p.ign.length + 1) (rowsE rulV (p.ign ++ [⟨a, false⟩])) by rw [rowsE_append, rowsE_one]; exact hown3)
      have p0 := HX3.out.cells.1
      have zz := HX3.out.soft 0
      obtain ⟨Wd, hWd⟩ : ∃ Wd, w3.setCell ⟨w.heap.size, 0, none⟩ (.slice A5 (p.ign.length + 1) c5) = Wd := ⟨_, rfl⟩
      have HWD := Lib.hid hWd
      have HBX : Hid (Bx w (.slice A5 (p.ign.length + 1) c5) (.slice A1 p.bak.length c1) (.slice A2 p.mrg.length c2) { p with ign := p.ign ++ [⟨a, false⟩] } Wd) := Lib.hid (hWd ▸ HX3.out.put rfl)
      have HLE := Lib.hid hs2
      have HOD : Hid (Wd.ownsRow w1.heap.size 67 2 (.slice A5 (p.ign.length + 1) c5) (p.ign.length + 1) (rowsE rulV (p.ign ++ [⟨a, false⟩]))) := Lib.hid (own_two w HO3.out HLE.out (hWd ▸ ((only_cell w3 w.heap.size 0 _).mono (fun k hk => Or.inl hk))))
      have HPV : Hid (pfV A5 c5 A1 c1 A2 c2 { p with ign := p.ign ++ [⟨a, false⟩] } = .agg #[.slice A5 (p.ign.length + 1) c5, .slice A1 p.bak.length c1, .slice A2 p.mrg.length c2, .int .i64 p.pre, .int .i64 p.frc, .bool p.bat, .bool p.fst]) := Lib.hid (by unfold pfV; simp only [List.length_append, List.length_singleton])
      clear hown3 hg3 hl3 hb2 hb3 HX1 HX2 HO2 HX3 HO3 hWd hc51 hc52
      go_upto_region 18 with (fail)
      rw [HWD.out]
      clear p0 zz HWD
      by_cases h100 : p.ign.length < 100
      · have g100 : decide ((p.ign.length : Int) + 1 ≤ 100) = true := by rw [decide_eq_true_eq]; omega
        have HSAY3 := Lib.hid (HSAY2.out.trans (if_pos ⟨hck, h100⟩))
        clear hck h100 HSAY HSAY2
        obtain ⟨p0, p1, p2, p3, p4, p5, p6⟩ := HBX.out.cells
        obtain ⟨q0, q1, q2, q3, q4, q5, q6⟩ := HBX.out.rcells
        have z1 := HBX.out.rsoft
        obtain ⟨WZ, hWZ⟩ : ∃ WZ, fillR w Wd (.slice A5 (p.ign.length + 1) c5) (.slice A1 p.bak.length c1) (.slice A2 p.mrg.length c2) { p with ign := p.ign ++ [⟨a, false⟩] } = WZ := ⟨_, rfl⟩
        have HF := Lib.hid (hWZ ▸ HBX.out.fill)
        have HPZ : Hid (PfAtT WZ A5 c5 A1 c1 A2 c2 { p with ign := p.ign ++ [⟨a, false⟩] }) := Lib.hid (by
          have hbz := hWZ ▸ HBX.out.fill.2.1
          have hoz : Only (fun k => k = w.heap.size ∨ k = w.heap.size + 1) Wd WZ := hWZ ▸ (HBX.out.fill.2.2.mono (fun k hk => .inr hk))
          have HRW : Hid (IsRows WZ 2 A5 (List.map rulV (p.ign ++ [(⟨a, false⟩ : Rule)]))) := Lib.hid (own_rowsP rulV_length (own_two w HOD.out HLE.out hoz) (by simp))
          exact ⟨⟨HRW.out, HP.out.bak.below hbz, HP.out.mrg.below hbz, ⟨by simp; exact HCC.out.1, HP.out.cap.2.1, HP.out.cap.2.2⟩, ⟨HCC.out.2, HP.out.len.2.1, HP.out.len.2.2⟩⟩, Tg.own (own_two w HOD.out HLE.out hoz), HP.out.tag.2.1.below hbz, HP.out.tag.2.2.below hbz⟩)
        have HWZ := Lib.hid (show _ = WZ from hWZ)
        clear hWZ
        unfold fillR at HWZ
        go_wp2_with (fail)
        go_region
        go_wp2_with (fail)
        rw [HWZ.out]
        refine bodyPost_ret (results_rowP_tmp Tryd.results38 _ WZ.drew (w.heap.size + 1) 27 _ (0, 0) _ rfl HF.out.1 Tryd.underlying27 rfl size_pf) rfl ?_
        exact ⟨_, _, _, _, _, _, { p with ign := p.ign ++ [⟨a, false⟩] }, by rw [HSAY3.out, HPV.out]; rfl, HPZ.out.below (still_drew _), HF.out.2.1.trans ((still_drew _).mono HF.out.2.1.size), fun q hq => by rw [HSAY3.out] at hq; injection hq⟩
      · have g100 : decide ((p.ign.length : Int) + 1 ≤ 100) = false := by rw [decide_eq_false_iff_not]; omega
        have HSAY3 := Lib.hid (HSAY2.out.trans (if_neg (fun h => h100 h.2)))
        clear hck h100 HSAY HSAY2
        obtain ⟨p0, p1, p2, p3, p4, p5, p6⟩ := HBX.out.cells
        obtain ⟨q0, q1, q2, q3, q4, q5, q6⟩ := HBX.out.rcells
        have z1 := HBX.out.rsoft
        obtain ⟨WZ, hWZ⟩ : ∃ WZ, fillR w Wd (.slice A5 (p.ign.length + 1) c5) (.slice A1 p.bak.length c1) (.slice A2 p.mrg.length c2) { p with ign := p.ign ++ [⟨a, false⟩] } = WZ := ⟨_, rfl⟩
        have HF := Lib.hid (hWZ ▸ HBX.out.fill)
        have HPZ : Hid (PfAtT WZ A5 c5 A1 c1 A2 c2 { p with ign := p.ign ++ [⟨a, false⟩] }) := Lib.hid (by
          have hbz := hWZ ▸ HBX.out.fill.2.1
          have hoz : Only (fun k => k = w.heap.size ∨ k = w.heap.size + 1) Wd WZ := hWZ ▸ (HBX.out.fill.2.2.mono (fun k hk => .inr hk))
          have HRW : Hid (IsRows WZ 2 A5 (List.map rulV (p.ign ++ [(⟨a, false⟩ : Rule)]))) := Lib.hid (own_rowsP rulV_length (own_two w HOD.out HLE.out hoz) (by simp))
          exact ⟨⟨HRW.out, HP.out.bak.below hbz, HP.out.mrg.below hbz, ⟨by simp; exact HCC.out.1, HP.out.cap.2.1, HP.out.cap.2.2⟩, ⟨HCC.out.2, HP.out.len.2.1, HP.out.len.2.2⟩⟩, Tg.own (own_two w HOD.out HLE.out hoz), HP.out.tag.2.1.below hbz, HP.out.tag.2.2.below hbz⟩)
        have HWZ := Lib.hid (show _ = WZ from hWZ)
        clear hWZ
        unfold fillR at HWZ
        go_wp2_with (fail)
        go_region
        go_wp2_with (fail)
        rw [HWZ.out]
        refine bodyPost_ret (results_rowP_tmp Tryd.results38 _ WZ.drew (w.heap.size + 1) 27 _ (0, 0) _ rfl HF.out.1 Tryd.underlying27 rfl size_pf) rfl ?_
        exact ⟨_, _, _, _, _, _, { p with ign := p.ign ++ [⟨a, false⟩] }, by rw [HSAY3.out, HPV.out]; rfl, HPZ.out.below (still_drew _), HF.out.2.1.trans ((still_drew _).mono HF.out.2.1.size), fun q hq => by rw [HSAY3.out] at hq; cases hq⟩
    · have gck : ((ck2 : Int) != 0) = true := by rw [bne_iff_ne]; omega
      have HSAY2 := Lib.hid (HSAY.out.trans (if_neg (fun h => hck h.1)))
      clear hck HSAY
      obtain ⟨p0, p1, p2, p3, p4, p5, p6⟩ := HX1.out.cells
      obtain ⟨q0, q1, q2, q3, q4, q5, q6⟩ := HX1.out.rcells
      have z1 := HX1.out.rsoft
      obtain ⟨WZ, hWZ⟩ : ∃ WZ, fillR w w1 (.slice A0 p.ign.length c0) (.slice A1 p.bak.length c1) (.slice A2 p.mrg.length c2) p = WZ := ⟨_, rfl⟩
      have HF := Lib.hid (hWZ ▸ HX1.out.fill)
      have HPZ : Hid (PfAtT WZ A0 c0 A1 c1 A2 c2 p) := Lib.hid (by
        exact HP.out.below (hWZ ▸ HX1.out.fill.2.1))
      have HWZ := Lib.hid (show _ = WZ from hWZ)
      clear hWZ
      unfold fillR at HWZ
      go_wp2_with (fail)
      rw [HWZ.out]
      refine bodyPost_ret (results_rowP_tmp Tryd.results38 _ WZ (w.heap.size + 1) 27 _ (0, 0) _ rfl HF.out.1 Tryd.underlying27 rfl size_pf) rfl ?_
      exact ⟨_, _, _, _, _, _, p, by rw [HSAY2.out]; rfl, HPZ.out, HF.out.2.1, fun q hq => by rw [HSAY2.out] at hq; cases hq⟩
set_option maxHeartbeats 8000000 in
set_option maxRecDepth 100000 in
theorem rsays_bak (wd a : List UInt8) (hw : wd = wBackup ∨ wd = wDrop) (h : PfAtT w A0 c0 A1 c1 A2 c2 p) (hsh : Short p) (ha : a.length ≤ 4294967280) :
    Calls Tryd.prog 38 #[pfV A0 c0 A1 c1 A2 c2 p, .string ⟨wd.toArray⟩, .string ⟨a.toArray⟩] w (RSaysOut w (saysP p wd a)) := by
  obtain ⟨r, hr⟩ : ∃ r, saysP p wd a = r := ⟨_, rfl⟩
  rw [hr]
  obtain ⟨W0, hW0⟩ : ∃ W0, (w.alloc (.cells #[.slice A0 p.ign.length c0, .slice A1 p.bak.length c1, .slice A2 p.mrg.length c2, .int .i64 p.pre, .int .i64 p.frc, .bool p.bat, .bool p.fst] 27)).alloc (.cells #[.slice none 0 0, .slice none 0 0, .slice none 0 0, .int .i64 0, .int .i64 0, .bool false, .bool false] 27) = W0 := ⟨_, rfl⟩
  have HX0 := Lib.hid (show Bx w (.slice A0 p.ign.length c0) (.slice A1 p.bak.length c1) (.slice A2 p.mrg.length c2) p W0 by rw [← hW0]; exact box_start p _ _ _ w)
  have HW0 := Lib.hid hW0
  have HP := Lib.hid h
  have HS := Lib.hid hsh
  clear hW0
  unfold pfV
  have HCK := Lib.hid (fun W => Check_ref a W)
  obtain ⟨g, hg⟩ : ∃ g, decide (wd = wBackup) = g := ⟨_, rfl⟩
  have HSAY : Hid (r = if (checkP 400 a).2 = 0 ∧ p.bak.length < 100 then some { p with bak := p.bak ++ [⟨a, g⟩] } else none) := Lib.hid (by
    rw [← hr, ← hg]; unfold saysP okPat; rw [if_neg (by rcases hw with rfl | rfl <;> decide), if_pos hw]; simp only [decide_eq_true_eq])
  generalize (checkP 400 a).1 = ck1 at *
  generalize (checkP 400 a).2 = ck2 at *
  clear hr h hsh ha
  rcases hw with rfl | rfl
  · obtain rfl : g = true := by rw [← hg]; exact decide_eq_true rfl
    clear hg
    unfold wBackup
    go_enter Tryd.func38, Tryd.ntmps38
    go_upto_region 1 with (fail)
    rw [HW0.out]
    go_wp2_with (fail)
    refine (HCK.out _).mono ?_
    rintro e w1 ⟨rfl, hw1⟩
    have HX1 := Lib.hid (HX0.out.on hw1)
    clear hw1
    by_cases hck : ck2 = 0
    · have gck : ((ck2 : Int) != 0) = false := by rw [bne_eq_false_iff_eq]; omega
      have HSAY2 := Lib.hid (HSAY.out)
      obtain ⟨it0, hi1, hy0, hy1, hy2⟩ := info_parts info_rule
      have HIN := Lib.hid hi1
      obtain ⟨p0, p1, p2, p3, p4, p5, p6⟩ := HX1.out.cells
      have hs2 := HX1.out.size
      have hl2 : w.heap.size < w1.heap.size := by omega
      have HRD := Lib.hid (rows_readsP (by decide) rulV_length (HP.out.bak.below HX1.out.below))
      have hlen := HS.out.2.1
      clear hi1
      go_wp2_with (at_builtin; refine wpList_append_slice rfl _ _ 24 rfl w1.heap.size 67 it0 _ 2 24 Tryd.underlying24 HIN.out hy0 hy1 hy2 rfl (by decide) (some ⟨w1.heap.size, 0, none⟩) 0 0 [] rfl (empty_ownP w1 67 2) A1 p.bak.length c1 (rowsE rulV p.bak) rfl (HRD.out.below ((Below.refl _ _).alloc (Nat.le_refl _) _)) (rowsE_oneCell rulV_oneCell p.bak) ?x3true ?x4true ?x5true ?_)
      case x3true => unfold maxLen; omega
      case x4true => omega
      all_goals try (first | exact Nat.le_refl _ | (simp; done))
      intro Aa ca w2 hown2 hg2
      have hb2 : Below w1.heap.size w1 w2 := ((Below.refl _ _).alloc (Nat.le_refl _) _).grown hg2 (by simp) (fun k hk => by
        have hk' : w1.heap.size = k := by injection hk
        omega)
      try simp only [Nat.zero_add, List.nil_append] at hown2
      have HX2 := Lib.hid (HX1.out.on hb2)
      have HO2 := Lib.hid hown2
      have hs3 := hb2.size
      clear hown2 hg2 p0 p1 p2 p3 p4 p5 p6 HRD
      go_wp2_with (at_builtin; refine wpList_append_two rfl _ _ 24 rfl w1.heap.size 67 it0 _ 2 24 Tryd.underlying24 HIN.out hy0 hy1 hy2 rfl (by decide) _ _ _ rfl (HO2.out.alloc _) ⟨w2.heap.size, 0, none⟩ 1 1 [.bool true, .string ⟨a.toArray⟩] rfl rfl (laid_cells w2 _ _) (by intro u hu; simp at hu; rcases hu with rfl | rfl <;> rfl) ?y3true ?y4true ?y5true ?_)
      case y3true => unfold maxLen; omega
      case y4true => omega
      case y5true => first | omega | (simp; omega)
      intro v3 w3 hown3 hg3 hl3
      obtain ⟨A5, c5, rfl, hc51, hc52, -⟩ := IsSlice.of_own hown3
      have HCC := Lib.hid (And.intro hc51 hc52)
      have hb3 : Below w1.heap.size w1 w3 := (hb2.alloc hb2.size _).grown hg3 (by simp; omega) (fun k hk => (HO2.out.lt k hk).1)
      have HX3 := Lib.hid (HX1.out.on hb3)
      have HO3 := Lib.hid (show w3.ownsRow w1.heap.size 67 2 (.slice A5 (p.bak.length + 1) c5) (p.bak.length + 1) (rowsE rulV (p.bak ++ [⟨a, true⟩])) by rw [rowsE_append, rowsE_one]; exact hown3)
      have p1 := HX3.out.cells.2.1
      have zz := HX3.out.soft 1
      obtain ⟨Wd, hWd⟩ : ∃ Wd, w3.setCell ⟨w.heap.size, 1, none⟩ (.slice A5 (p.bak.length + 1) c5) = Wd := ⟨_, rfl⟩
      have HWD := Lib.hid hWd
      have HBX : Hid (Bx w (.slice A0 p.ign.length c0) (.slice A5 (p.bak.length + 1) c5) (.slice A2 p.mrg.length c2) { p with bak := p.bak ++ [⟨a, true⟩] } Wd) := Lib.hid (hWd ▸ HX3.out.put rfl)
      have HLE := Lib.hid hs2
      have HOD : Hid (Wd.ownsRow w1.heap.size 67 2 (.slice A5 (p.bak.length + 1) c5) (p.bak.length + 1) (rowsE rulV (p.bak ++ [⟨a, true⟩]))) := Lib.hid (own_two w HO3.out HLE.out (hWd ▸ ((only_cell w3 w.heap.size 1 _).mono (fun k hk => Or.inl hk))))
      have HPV : Hid (pfV A0 c0 A5 c5 A2 c2 { p with bak := p.bak ++ [⟨a, true⟩] } = .agg #[.slice A0 p.ign.length c0, .slice A5 (p.bak.length + 1) c5, .slice A2 p.mrg.length c2, .int .i64 p.pre, .int .i64 p.frc, .bool p.bat, .bool p.fst]) := Lib.hid (by unfold pfV; simp only [List.length_append, List.length_singleton])
      clear hown3 hg3 hl3 hb2 hb3 HX1 HX2 HO2 HX3 HO3 hWd hc51 hc52
      go_upto_region 22 with (fail)
      rw [HWD.out]
      clear p1 zz HWD
      by_cases h100 : p.bak.length < 100
      · have g100 : decide ((p.bak.length : Int) + 1 ≤ 100) = true := by rw [decide_eq_true_eq]; omega
        have HSAY3 := Lib.hid (HSAY2.out.trans (if_pos ⟨hck, h100⟩))
        clear hck h100 HSAY HSAY2
        obtain ⟨p0, p1, p2, p3, p4, p5, p6⟩ := HBX.out.cells
        obtain ⟨q0, q1, q2, q3, q4, q5, q6⟩ := HBX.out.rcells
        have z1 := HBX.out.rsoft
        obtain ⟨WZ, hWZ⟩ : ∃ WZ, fillR w Wd (.slice A0 p.ign.length c0) (.slice A5 (p.bak.length + 1) c5) (.slice A2 p.mrg.length c2) { p with bak := p.bak ++ [⟨a, true⟩] } = WZ := ⟨_, rfl⟩
        have HF := Lib.hid (hWZ ▸ HBX.out.fill)
        have HPZ : Hid (PfAtT WZ A0 c0 A5 c5 A2 c2 { p with bak := p.bak ++ [⟨a, true⟩] }) := Lib.hid (by
          have hbz := hWZ ▸ HBX.out.fill.2.1
          have hoz : Only (fun k => k = w.heap.size ∨ k = w.heap.size + 1) Wd WZ := hWZ ▸ (HBX.out.fill.2.2.mono (fun k hk => .inr hk))
          have HRW : Hid (IsRows WZ 2 A5 (List.map rulV (p.bak ++ [(⟨a, true⟩ : Rule)]))) := Lib.hid (own_rowsP rulV_length (own_two w HOD.out HLE.out hoz) (by simp))
          exact ⟨⟨HP.out.ign.below hbz, HRW.out, HP.out.mrg.below hbz, ⟨HP.out.cap.1, by simp; exact HCC.out.1, HP.out.cap.2.2⟩, ⟨HP.out.len.1, HCC.out.2, HP.out.len.2.2⟩⟩, HP.out.tag.1.below hbz, Tg.own (own_two w HOD.out HLE.out hoz), HP.out.tag.2.2.below hbz⟩)
        have HWZ := Lib.hid (show _ = WZ from hWZ)
        clear hWZ
        unfold fillR at HWZ
        go_wp2_with (fail)
        go_region
        go_wp2_with (fail)
        rw [HWZ.out]
        refine bodyPost_ret (results_rowP_tmp Tryd.results38 _ WZ.drew (w.heap.size + 1) 27 _ (0, 0) _ rfl HF.out.1 Tryd.underlying27 rfl size_pf) rfl ?_
        exact ⟨_, _, _, _, _, _, { p with bak := p.bak ++ [⟨a, true⟩] }, by rw [HSAY3.out, HPV.out]; rfl, HPZ.out.below (still_drew _), HF.out.2.1.trans ((still_drew _).mono HF.out.2.1.size), fun q hq => by rw [HSAY3.out] at hq; injection hq⟩
      · have g100 : decide ((p.bak.length : Int) + 1 ≤ 100) = false := by rw [decide_eq_false_iff_not]; omega
        have HSAY3 := Lib.hid (HSAY2.out.trans (if_neg (fun h => h100 h.2)))
        clear hck h100 HSAY HSAY2
        obtain ⟨p0, p1, p2, p3, p4, p5, p6⟩ := HBX.out.cells
        obtain ⟨q0, q1, q2, q3, q4, q5, q6⟩ := HBX.out.rcells
        have z1 := HBX.out.rsoft
        obtain ⟨WZ, hWZ⟩ : ∃ WZ, fillR w Wd (.slice A0 p.ign.length c0) (.slice A5 (p.bak.length + 1) c5) (.slice A2 p.mrg.length c2) { p with bak := p.bak ++ [⟨a, true⟩] } = WZ := ⟨_, rfl⟩
        have HF := Lib.hid (hWZ ▸ HBX.out.fill)
        have HPZ : Hid (PfAtT WZ A0 c0 A5 c5 A2 c2 { p with bak := p.bak ++ [⟨a, true⟩] }) := Lib.hid (by
          have hbz := hWZ ▸ HBX.out.fill.2.1
          have hoz : Only (fun k => k = w.heap.size ∨ k = w.heap.size + 1) Wd WZ := hWZ ▸ (HBX.out.fill.2.2.mono (fun k hk => .inr hk))
          have HRW : Hid (IsRows WZ 2 A5 (List.map rulV (p.bak ++ [(⟨a, true⟩ : Rule)]))) := Lib.hid (own_rowsP rulV_length (own_two w HOD.out HLE.out hoz) (by simp))
          exact ⟨⟨HP.out.ign.below hbz, HRW.out, HP.out.mrg.below hbz, ⟨HP.out.cap.1, by simp; exact HCC.out.1, HP.out.cap.2.2⟩, ⟨HP.out.len.1, HCC.out.2, HP.out.len.2.2⟩⟩, HP.out.tag.1.below hbz, Tg.own (own_two w HOD.out HLE.out hoz), HP.out.tag.2.2.below hbz⟩)
        have HWZ := Lib.hid (show _ = WZ from hWZ)
        clear hWZ
        unfold fillR at HWZ
        go_wp2_with (fail)
        go_region
        go_wp2_with (fail)
        rw [HWZ.out]
        refine bodyPost_ret (results_rowP_tmp Tryd.results38 _ WZ.drew (w.heap.size + 1) 27 _ (0, 0) _ rfl HF.out.1 Tryd.underlying27 rfl size_pf) rfl ?_
        exact ⟨_, _, _, _, _, _, { p with bak := p.bak ++ [⟨a, true⟩] }, by rw [HSAY3.out, HPV.out]; rfl, HPZ.out.below (still_drew _), HF.out.2.1.trans ((still_drew _).mono HF.out.2.1.size), fun q hq => by rw [HSAY3.out] at hq; cases hq⟩
    · have gck : ((ck2 : Int) != 0) = true := by rw [bne_iff_ne]; omega
      have HSAY2 := Lib.hid (HSAY.out.trans (if_neg (fun h => hck h.1)))
      clear hck HSAY
      obtain ⟨p0, p1, p2, p3, p4, p5, p6⟩ := HX1.out.cells
      obtain ⟨q0, q1, q2, q3, q4, q5, q6⟩ := HX1.out.rcells
      have z1 := HX1.out.rsoft
      obtain ⟨WZ, hWZ⟩ : ∃ WZ, fillR w w1 (.slice A0 p.ign.length c0) (.slice A1 p.bak.length c1) (.slice A2 p.mrg.length c2) p = WZ := ⟨_, rfl⟩
      have HF := Lib.hid (hWZ ▸ HX1.out.fill)
      have HPZ : Hid (PfAtT WZ A0 c0 A1 c1 A2 c2 p) := Lib.hid (by
        exact HP.out.below (hWZ ▸ HX1.out.fill.2.1))
      have HWZ := Lib.hid (show _ = WZ from hWZ)
      clear hWZ
      unfold fillR at HWZ
      go_wp2_with (fail)
      rw [HWZ.out]
      refine bodyPost_ret (results_rowP_tmp Tryd.results38 _ WZ (w.heap.size + 1) 27 _ (0, 0) _ rfl HF.out.1 Tryd.underlying27 rfl size_pf) rfl ?_
      exact ⟨_, _, _, _, _, _, p, by rw [HSAY2.out]; rfl, HPZ.out, HF.out.2.1, fun q hq => by rw [HSAY2.out] at hq; cases hq⟩
  · obtain rfl : g = false := by rw [← hg]; decide
    clear hg
    unfold wDrop
    go_enter Tryd.func38, Tryd.ntmps38
    go_upto_region 1 with (fail)
    rw [HW0.out]
    go_wp2_with (fail)
    refine (HCK.out _).mono ?_
    rintro e w1 ⟨rfl, hw1⟩
    have HX1 := Lib.hid (HX0.out.on hw1)
    clear hw1
    by_cases hck : ck2 = 0
    · have gck : ((ck2 : Int) != 0) = false := by rw [bne_eq_false_iff_eq]; omega
      have HSAY2 := Lib.hid (HSAY.out)
      obtain ⟨it0, hi1, hy0, hy1, hy2⟩ := info_parts info_rule
      have HIN := Lib.hid hi1
      obtain ⟨p0, p1, p2, p3, p4, p5, p6⟩ := HX1.out.cells
      have hs2 := HX1.out.size
      have hl2 : w.heap.size < w1.heap.size := by omega
      have HRD := Lib.hid (rows_readsP (by decide) rulV_length (HP.out.bak.below HX1.out.below))
      have hlen := HS.out.2.1
      clear hi1
      go_wp2_with (at_builtin; refine wpList_append_slice rfl _ _ 24 rfl w1.heap.size 67 it0 _ 2 24 Tryd.underlying24 HIN.out hy0 hy1 hy2 rfl (by decide) (some ⟨w1.heap.size, 0, none⟩) 0 0 [] rfl (empty_ownP w1 67 2) A1 p.bak.length c1 (rowsE rulV p.bak) rfl (HRD.out.below ((Below.refl _ _).alloc (Nat.le_refl _) _)) (rowsE_oneCell rulV_oneCell p.bak) ?x3false ?x4false ?x5false ?_)
      case x3false => unfold maxLen; omega
      case x4false => omega
      all_goals try (first | exact Nat.le_refl _ | (simp; done))
      intro Aa ca w2 hown2 hg2
      have hb2 : Below w1.heap.size w1 w2 := ((Below.refl _ _).alloc (Nat.le_refl _) _).grown hg2 (by simp) (fun k hk => by
        have hk' : w1.heap.size = k := by injection hk
        omega)
      try simp only [Nat.zero_add, List.nil_append] at hown2
      have HX2 := Lib.hid (HX1.out.on hb2)
      have HO2 := Lib.hid hown2
      have hs3 := hb2.size
      clear hown2 hg2 p0 p1 p2 p3 p4 p5 p6 HRD
      go_wp2_with (at_builtin; refine wpList_append_two rfl _ _ 24 rfl w1.heap.size 67 it0 _ 2 24 Tryd.underlying24 HIN.out hy0 hy1 hy2 rfl (by decide) _ _ _ rfl (HO2.out.alloc _) ⟨w2.heap.size, 0, none⟩ 1 1 [.bool false, .string ⟨a.toArray⟩] rfl rfl (laid_cells w2 _ _) (by intro u hu; simp at hu; rcases hu with rfl | rfl <;> rfl) ?y3false ?y4false ?y5false ?_)
      case y3false => unfold maxLen; omega
      case y4false => omega
      case y5false => first | omega | (simp; omega)
      intro v3 w3 hown3 hg3 hl3
      obtain ⟨A5, c5, rfl, hc51, hc52, -⟩ := IsSlice.of_own hown3
      have HCC := Lib.hid (And.intro hc51 hc52)
      have hb3 : Below w1.heap.size w1 w3 := (hb2.alloc hb2.size _).grown hg3 (by simp; omega) (fun k hk => (HO2.out.lt k hk).1)
      have HX3 := Lib.hid (HX1.out.on hb3)
      have HO3 := Lib.hid (show w3.ownsRow w1.heap.size 67 2 (.slice A5 (p.bak.length + 1) c5) (p.bak.length + 1) (rowsE rulV (p.bak ++ [⟨a, false⟩])) by rw [rowsE_append, rowsE_one]; exact hown3)
      have p1 := HX3.out.cells.2.1
      have zz := HX3.out.soft 1
      obtain ⟨Wd, hWd⟩ : ∃ Wd, w3.setCell ⟨w.heap.size, 1, none⟩ (.slice A5 (p.bak.length + 1) c5) = Wd := ⟨_, rfl⟩
      have HWD := Lib.hid hWd
      have HBX : Hid (Bx w (.slice A0 p.ign.length c0) (.slice A5 (p.bak.length + 1) c5) (.slice A2 p.mrg.length c2) { p with bak := p.bak ++ [⟨a, false⟩] } Wd) := Lib.hid (hWd ▸ HX3.out.put rfl)
      have HLE := Lib.hid hs2
      have HOD : Hid (Wd.ownsRow w1.heap.size 67 2 (.slice A5 (p.bak.length + 1) c5) (p.bak.length + 1) (rowsE rulV (p.bak ++ [⟨a, false⟩]))) := Lib.hid (own_two w HO3.out HLE.out (hWd ▸ ((only_cell w3 w.heap.size 1 _).mono (fun k hk => Or.inl hk))))
      have HPV : Hid (pfV A0 c0 A5 c5 A2 c2 { p with bak := p.bak ++ [⟨a, false⟩] } = .agg #[.slice A0 p.ign.length c0, .slice A5 (p.bak.length + 1) c5, .slice A2 p.mrg.length c2, .int .i64 p.pre, .int .i64 p.frc, .bool p.bat, .bool p.fst]) := Lib.hid (by unfold pfV; simp only [List.length_append, List.length_singleton])
      clear hown3 hg3 hl3 hb2 hb3 HX1 HX2 HO2 HX3 HO3 hWd hc51 hc52
      go_upto_region 22 with (fail)
      rw [HWD.out]
      clear p1 zz HWD
      by_cases h100 : p.bak.length < 100
      · have g100 : decide ((p.bak.length : Int) + 1 ≤ 100) = true := by rw [decide_eq_true_eq]; omega
        have HSAY3 := Lib.hid (HSAY2.out.trans (if_pos ⟨hck, h100⟩))
        clear hck h100 HSAY HSAY2
        obtain ⟨p0, p1, p2, p3, p4, p5, p6⟩ := HBX.out.cells
        obtain ⟨q0, q1, q2, q3, q4, q5, q6⟩ := HBX.out.rcells
        have z1 := HBX.out.rsoft
        obtain ⟨WZ, hWZ⟩ : ∃ WZ, fillR w Wd (.slice A0 p.ign.length c0) (.slice A5 (p.bak.length + 1) c5) (.slice A2 p.mrg.length c2) { p with bak := p.bak ++ [⟨a, false⟩] } = WZ := ⟨_, rfl⟩
        have HF := Lib.hid (hWZ ▸ HBX.out.fill)
        have HPZ : Hid (PfAtT WZ A0 c0 A5 c5 A2 c2 { p with bak := p.bak ++ [⟨a, false⟩] }) := Lib.hid (by
          have hbz := hWZ ▸ HBX.out.fill.2.1
          have hoz : Only (fun k => k = w.heap.size ∨ k = w.heap.size + 1) Wd WZ := hWZ ▸ (HBX.out.fill.2.2.mono (fun k hk => .inr hk))
          have HRW : Hid (IsRows WZ 2 A5 (List.map rulV (p.bak ++ [(⟨a, false⟩ : Rule)]))) := Lib.hid (own_rowsP rulV_length (own_two w HOD.out HLE.out hoz) (by simp))
          exact ⟨⟨HP.out.ign.below hbz, HRW.out, HP.out.mrg.below hbz, ⟨HP.out.cap.1, by simp; exact HCC.out.1, HP.out.cap.2.2⟩, ⟨HP.out.len.1, HCC.out.2, HP.out.len.2.2⟩⟩, HP.out.tag.1.below hbz, Tg.own (own_two w HOD.out HLE.out hoz), HP.out.tag.2.2.below hbz⟩)
        have HWZ := Lib.hid (show _ = WZ from hWZ)
        clear hWZ
        unfold fillR at HWZ
        go_wp2_with (fail)
        go_region
        go_wp2_with (fail)
        rw [HWZ.out]
        refine bodyPost_ret (results_rowP_tmp Tryd.results38 _ WZ.drew (w.heap.size + 1) 27 _ (0, 0) _ rfl HF.out.1 Tryd.underlying27 rfl size_pf) rfl ?_
        exact ⟨_, _, _, _, _, _, { p with bak := p.bak ++ [⟨a, false⟩] }, by rw [HSAY3.out, HPV.out]; rfl, HPZ.out.below (still_drew _), HF.out.2.1.trans ((still_drew _).mono HF.out.2.1.size), fun q hq => by rw [HSAY3.out] at hq; injection hq⟩
      · have g100 : decide ((p.bak.length : Int) + 1 ≤ 100) = false := by rw [decide_eq_false_iff_not]; omega
        have HSAY3 := Lib.hid (HSAY2.out.trans (if_neg (fun h => h100 h.2)))
        clear hck h100 HSAY HSAY2
        obtain ⟨p0, p1, p2, p3, p4, p5, p6⟩ := HBX.out.cells
        obtain ⟨q0, q1, q2, q3, q4, q5, q6⟩ := HBX.out.rcells
        have z1 := HBX.out.rsoft
        obtain ⟨WZ, hWZ⟩ : ∃ WZ, fillR w Wd (.slice A0 p.ign.length c0) (.slice A5 (p.bak.length + 1) c5) (.slice A2 p.mrg.length c2) { p with bak := p.bak ++ [⟨a, false⟩] } = WZ := ⟨_, rfl⟩
        have HF := Lib.hid (hWZ ▸ HBX.out.fill)
        have HPZ : Hid (PfAtT WZ A0 c0 A5 c5 A2 c2 { p with bak := p.bak ++ [⟨a, false⟩] }) := Lib.hid (by
          have hbz := hWZ ▸ HBX.out.fill.2.1
          have hoz : Only (fun k => k = w.heap.size ∨ k = w.heap.size + 1) Wd WZ := hWZ ▸ (HBX.out.fill.2.2.mono (fun k hk => .inr hk))
          have HRW : Hid (IsRows WZ 2 A5 (List.map rulV (p.bak ++ [(⟨a, false⟩ : Rule)]))) := Lib.hid (own_rowsP rulV_length (own_two w HOD.out HLE.out hoz) (by simp))
          exact ⟨⟨HP.out.ign.below hbz, HRW.out, HP.out.mrg.below hbz, ⟨HP.out.cap.1, by simp; exact HCC.out.1, HP.out.cap.2.2⟩, ⟨HP.out.len.1, HCC.out.2, HP.out.len.2.2⟩⟩, HP.out.tag.1.below hbz, Tg.own (own_two w HOD.out HLE.out hoz), HP.out.tag.2.2.below hbz⟩)
        have HWZ := Lib.hid (show _ = WZ from hWZ)
        clear hWZ
        unfold fillR at HWZ
        go_wp2_with (fail)
        go_region
        go_wp2_with (fail)
        rw [HWZ.out]
        refine bodyPost_ret (results_rowP_tmp Tryd.results38 _ WZ.drew (w.heap.size + 1) 27 _ (0, 0) _ rfl HF.out.1 Tryd.underlying27 rfl size_pf) rfl ?_
        exact ⟨_, _, _, _, _, _, { p with bak := p.bak ++ [⟨a, false⟩] }, by rw [HSAY3.out, HPV.out]; rfl, HPZ.out.below (still_drew _), HF.out.2.1.trans ((still_drew _).mono HF.out.2.1.size), fun q hq => by rw [HSAY3.out] at hq; cases hq⟩
    · have gck : ((ck2 : Int) != 0) = true := by rw [bne_iff_ne]; omega
      have HSAY2 := Lib.hid (HSAY.out.trans (if_neg (fun h => hck h.1)))
      clear hck HSAY
      obtain ⟨p0, p1, p2, p3, p4, p5, p6⟩ := HX1.out.cells
      obtain ⟨q0, q1, q2, q3, q4, q5, q6⟩ := HX1.out.rcells
      have z1 := HX1.out.rsoft
      obtain ⟨WZ, hWZ⟩ : ∃ WZ, fillR w w1 (.slice A0 p.ign.length c0) (.slice A1 p.bak.length c1) (.slice A2 p.mrg.length c2) p = WZ := ⟨_, rfl⟩
      have HF := Lib.hid (hWZ ▸ HX1.out.fill)
      have HPZ : Hid (PfAtT WZ A0 c0 A1 c1 A2 c2 p) := Lib.hid (by
        exact HP.out.below (hWZ ▸ HX1.out.fill.2.1))
      have HWZ := Lib.hid (show _ = WZ from hWZ)
      clear hWZ
      unfold fillR at HWZ
      go_wp2_with (fail)
      rw [HWZ.out]
      refine bodyPost_ret (results_rowP_tmp Tryd.results38 _ WZ (w.heap.size + 1) 27 _ (0, 0) _ rfl HF.out.1 Tryd.underlying27 rfl size_pf) rfl ?_
      exact ⟨_, _, _, _, _, _, p, by rw [HSAY2.out]; rfl, HPZ.out, HF.out.2.1, fun q hq => by rw [HSAY2.out] at hq; cases hq⟩
end
end Go.Proofs.YtoifnnhbejofjaaDoor
end
