/- glob.parts: the closure that remembers which pairs do not match. -/
import Derived.Test.YtgppfcaghjbjmaaDoorGlob4
import Derived.Test.YtgppfcaghjbjmaaDoorMaps
import Derived.Test.YtgppfcaghjbjmaaDoorWords
import Derived.DeepKeys4
namespace Go.Proofs.YtgppfcaghjbjmaaDoor
open Go.RowKit Go.Maps Plain

theorem laidOut5 : laidOutB Tryd.prog = true := by kernel_rfl
theorem row2 : 55 < Tryd.prog.types.size := by decide +kernel
theorem keyed2 : Keyed Tryd.prog 55 := Keyed.of_law (deep_law_laid laidOut5 (m := 2) (by omega) row2 (by kernel_rfl) (by kernel_rfl))
def pairV (i j : Nat) : Value := .agg #[.int .i64 i, .int .i64 j]
theorem pairV_inj {i j i' j' : Nat} (h : pairV i j = pairV i' j') : i = i' ∧ j = j' := by
  unfold pairV at h
  simp at h
  omega
theorem pair_formed (i j : Nat) : (pairV i j).formed Tryd.prog 55 = true := by
  unfold pairV Value.formed
  simp only [Tryd.underlying55]
  kernel_rfl
theorem pair_type : Tryd.prog.keyType 55 = true := by kernel_rfl
theorem pair_key (i j : Nat) (hi : i ≤ 4294967296) (hj : j ≤ 4294967296) : ∃ l, keyOf Tryd.prog 55 (pairV i j) = some l := by
  unfold keyOf
  simp only [Tryd.underlying55]
  rw [if_pos (by rw [pair_type, pair_formed]; rfl)]
  have : (Tryd.prog.keyLits (Tryd.prog.types.size + 1) 55 (pairV i j).cells.toList).isSome = true := by
    obtain ⟨d, hd⟩ : ∃ d, Tryd.prog.types.size + 1 = d + 1 + 1 := ⟨Tryd.prog.types.size - 1, by have := row2; omega⟩
    rw [hd]
    have hc2 : Tryd.prog.cellsOf 55 = 2 := by kernel_rfl
    have hc1 : Tryd.prog.cellsOf 3 = 1 := by kernel_rfl
    have hw : ∀ n : Nat, n ≤ 4294967296 → (Lit.int .i64 (n : Int)).wf = true := fun n hn => by
      unfold Lit.wf
      rw [Bool.and_eq_true, decide_eq_true_eq, decide_eq_true_eq]
      exact ⟨by show (-9223372036854775808 : Int) ≤ n; omega, by show (n : Int) ≤ 9223372036854775807; omega⟩
    have h1 : ∀ n : Nat, n ≤ 4294967296 → Tryd.prog.keyLits (d + 1) 3 [.int .i64 (n : Int)] = some [.int .i64 (n : Int)] := fun n hn => by
      unfold Program.keyLits
      simp only [Tryd.underlying3]
      rw [if_pos ⟨trivial, hw n hn⟩]
    unfold Program.keyLits
    simp only [Tryd.underlying55, hc2, hc1]
    simp [pairV, Value.cells, List.range_succ, h1 i hi, h1 j hj]
  obtain ⟨l, hl⟩ := Option.isSome_iff_exists.1 this
  exact ⟨_, by rw [hl]; rfl⟩

/-- A load of a cell, in a region that draws its order, in whatever class. -/
theorem quiet_load_in {P : Program} {C : World → Prop} {o : Oper} {a : Act} {K : Act → Prop} (ty : TypeId) (x : Operand) (ho : o.op = .load ty x)
    (p : Addr) (hx : a.eval x = .pointer (some p)) (v : Value) (d : TypeDesc) (hc : ∀ w, C w → w.cell? p = some v)
    (hu : P.underlying ty = some d) (hd : (match d with | .struct _ | .array _ _ => true | _ => false) = false)
    (h : K (a.put o.dst v)) : o.quiet P a C K := by
  refine ⟨v, fun W hW => ?_, h⟩
  have hcW := hc W hW
  have hagg : (isAgg ty).run P W = .ok false W := by
    unfold isAgg
    rw [Sem.run_bind, run_underlying hu W]
    cases d <;> simp_all
  unfold Oper.quietAt execOp
  simp only [ho, hx, Instr.loadAt, Instr.sureAddr, Sem.run_bind, Sem.run_pure, Result.andThen_ok, loadVar, hagg]
  simp [go_sem, hcW, Oper.quietUpon]

/-- A region that draws its order, in whatever class. -/
theorem wp_region_in {P : Program} {C : World → Prop} {id : Nat} {Q : Exit → Act → World → Prop} {a : Act} {w : World} {l : List Oper} (hm : P.follows .mixedOrders = true) (hB : Region.lexB .any l.toArray = true) (hC : C w.drew)
    (h : wpQuiet P l.toArray C (fun a' => ∀ W, C W → Q .normal a' W) l a) : (Code.region id l.toArray true).wp P Q a w :=
  wp_region_quiet (C := C) hm hB hC (by simpa using h)

theorem cell_block {w w' : World} {p : Addr} (h : w'.heap[p.block]? = w.heap[p.block]?) : w'.cell? p = w.cell? p := by unfold World.cell?; rw [h]
theorem cell_not_map {w : World} {p : Addr} {v : Value} {es : Array MapEntry} {c : Nat} (h : w.cell? p = some v) (hm : w.heap[p.block]? = some (.map es c)) : False := by
  unfold World.cell? at h; rw [hm] at h; cases h
theorem maps_block {w : World} {P : Program} {k : TypeId} {b n : Nat} {f : Value → Option Value} (h : MapIs P k w b n f) : ∃ es c, w.heap[b]? = some (.map es c) := by
  obtain ⟨es, c, h, _⟩ := h; exact ⟨es, c, h⟩

/-- The state that the closure goes over. -/
structure DS (w0 : World) (p n : List (List UInt8)) (Ap An : Option Addr) (cp cn bp bn bs bd bm : Nat) (W : World) : Prop where
  below : Below w0.heap.size w0 W
  hp : W.cell? ⟨bp, 0, none⟩ = some (.slice Ap p.length cp)
  hn : W.cell? ⟨bn, 0, none⟩ = some (.slice An n.length cn)
  hs : W.cell? ⟨bs, 0, none⟩ = some (.map (some bm))
  hd : W.cell? ⟨bd, 0, none⟩ = some (.func (.func 41) #[] #[.pointer (some ⟨bp, 0, none⟩), .pointer (some ⟨bn, 0, none⟩), .pointer (some ⟨bs, 0, none⟩), .pointer (some ⟨bd, 0, none⟩)])
  map : ∃ k f, MapIs Tryd.prog 55 W bm k f ∧ (∀ i j, f (pairV i j) = some (.bool true) → partsP (p.drop i) (n.drop j) = false) ∧ ∀ x v, f x = some v → ∃ b, v = .bool b
section
variable {w0 W W' : World} {p n : List (List UInt8)} {Ap An : Option Addr} {cp cn bp bn bs bd bm : Nat}
theorem DS.below' (h : DS w0 p n Ap An cp cn bp bn bs bd bm W) (hb : Below W.heap.size W W') : DS w0 p n Ap An cp cn bp bn bs bd bm W' := by
  have c := fun {q : Addr} {v : Value} (h : W.cell? q = some v) => (hb.cell (World.block_lt_of_cell? _ _ h)).trans h
  obtain ⟨k, f, h1, h2⟩ := h.map
  exact ⟨h.below.trans (hb.mono h.below.size), c h.hp, c h.hn, c h.hs, c h.hd, k, f, h1.below hb, h2⟩
theorem DS.drew (h : DS w0 p n Ap An cp cn bp bn bs bd bm W) : DS w0 p n Ap An cp cn bp bn bs bd bm W.drew := h.below' (Below.refl _ _).drew
open Classical in
/-- what has been found is kept -/
theorem DS.put (h : DS w0 p n Ap An cp cn bp bn bs bd bm W) (hbm : w0.heap.size ≤ bm) {i j : Nat} (hi : i ≤ 4294967296) (hj : j ≤ 4294967296) {ok : Bool} (hok : partsP (p.drop i) (n.drop j) = ok) :
    ∃ W', (Instr.mapUpdate 53 (.map (some bm)) (.agg #[.int .i64 i, .int .i64 j]) (.bool (!ok))).run Tryd.prog W = .ok () W' ∧ DS w0 p n Ap An cp cn bp bn bs bd bm W' := by
  obtain ⟨k, f, h1, h2, h3⟩ := h.map
  obtain ⟨es, cl, hmb⟩ := maps_block h1
  obtain ⟨l, hl⟩ := pair_key i j hi hj
  obtain ⟨o, ho, hm⟩ := h1.store keyed2 Tryd.underlying53 hl (fun x => if x = pairV i j then some (.bool (!ok)) else f x) (fun y hy => if_neg hy) (if_pos rfl)
  refine ⟨{ W with heap := W.heap.setIfInBounds bm o }, ho W rfl, ?_⟩
  have hlt := h1.lt
  have hoth : ∀ b, b ≠ bm → ({ W with heap := W.heap.setIfInBounds bm o } : World).heap[b]? = W.heap[b]? := fun b hb => by simp [Ne.symm hb]
  have c := fun {q : Addr} {v : Value} (hq : W.cell? q = some v) => (cell_block (w := W) (w' := { W with heap := W.heap.setIfInBounds bm o }) (p := q) (hoth _ (fun e => cell_not_map hq (by rw [e]; exact hmb)))).trans hq
  refine ⟨⟨h.below.os, h.below.tape, h.below.output, by simpa using h.below.size, fun b hb => (hoth b (by omega)).trans (h.below.block b hb)⟩, c h.hp, c h.hn, c h.hs, c h.hd, k + 1, _, hm _ (by simp [hlt]), fun i' j' hf => ?_, fun x v hx => ?_⟩
  · by_cases e : pairV i' j' = pairV i j
    · obtain ⟨rfl, rfl⟩ := pairV_inj e
      rw [if_pos rfl] at hf
      injection hf with hf
      injection hf with hf
      cases ok
      · exact hok
      · cases hf
    · rw [if_neg e] at hf
      exact h2 i' j' hf
  · by_cases e : x = pairV i j
    · rw [if_pos e] at hx
      injection hx with hx
      exact ⟨_, hx.symm⟩
    · rw [if_neg e] at hx
      exact h3 x v hx
theorem DS.get (h : DS w0 p n Ap An cp cn bp bn bs bd bm W) {i j : Nat} (hi : i ≤ 4294967296) (hj : j ≤ 4294967296) :
    ∃ b, (Instr.lookup 53 (.map (some bm)) (.agg #[.int .i64 i, .int .i64 j]) false).run Tryd.prog W = .ok (.bool b) W ∧ (b = true → partsP (p.drop i) (n.drop j) = false) := by
  obtain ⟨k, f, h1, h2, h3⟩ := h.map
  obtain ⟨l, hl⟩ := pair_key i j hi hj
  have hz : (zeroValue 4).run Tryd.prog W = .ok (.bool false) W := Tryd.zeroValue4 W
  have hlk := h1.look keyed2 Tryd.underlying53 hz hl false
  rw [if_neg (by decide)] at hlk
  cases hf : f (pairV i j) with
  | none =>
    rw [hf] at hlk
    exact ⟨false, hlk, fun e => by cases e⟩
  | some v =>
    obtain ⟨b, rfl⟩ := h3 _ _ hf
    rw [hf] at hlk
    refine ⟨b, hlk, fun e => h2 i j (by rw [hf, e])⟩
end
theorem partsP_nil (l : List (List UInt8)) : partsP [] l = l.isEmpty := by unfold partsP; simp [matchT]
theorem partsP_star {p n : List (List UInt8)} : partsP ([42, 42] :: p) n = (partsP p n || (match n with | [] => false | _ :: m => partsP ([42, 42] :: p) m)) := by
  unfold partsP
  rw [List.map_cons, partsTok_stars, matchT_none]
  cases n with
  | nil => rw [matchS_nil, Bool.or_false]
  | cons x m =>
    rw [matchS_cons]
    show _ = (_ || matchT (none :: p.map partsTok) m)
    rw [matchT_none]
theorem partsP_star_at {p n : List (List UInt8)} {i j : Nat} (hi : i < p.length) (h : p[i] = [42, 42]) : partsP (p.drop i) (n.drop j) = (partsP (p.drop (i + 1)) (n.drop j) || (decide (j < n.length) && partsP (p.drop i) (n.drop (j + 1)))) := by
  rw [List.drop_eq_getElem_cons hi, h]
  by_cases hj : j < n.length
  · rw [List.drop_eq_getElem_cons hj, partsP_star, decide_eq_true hj, Bool.true_and]
  · rw [List.drop_eq_nil_of_le (show n.length ≤ j by omega), partsP_star, decide_eq_false hj, Bool.false_and]
theorem partsP_one_at {p n : List (List UInt8)} {i j : Nat} (hi : i < p.length) (h : p[i] ≠ [42, 42]) : partsP (p.drop i) (n.drop j) = if hj : j < n.length then (partP p[i] n[j] && partsP (p.drop (i + 1)) (n.drop (j + 1))) else false := by
  rw [List.drop_eq_getElem_cons hi]
  unfold partsP
  rw [List.map_cons, partsTok_no h]
  by_cases hj : j < n.length
  · rw [List.drop_eq_getElem_cons hj, dif_pos hj]
    simp only [matchT]
  · rw [List.drop_eq_nil_of_le (show n.length ≤ j by omega), dif_neg hj]
    simp only [matchT]
end Go.Proofs.YtgppfcaghjbjmaaDoor
