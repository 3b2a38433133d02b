/- Texts joined: Open3, RangeLaw2, Glob9, Glob10, Two, AppendSlice, More. -/
import Derived.Test.YtgppfcaghjbjmaaDoorBGlobRules6
import Derived.Deep.Slices
import Derived.Deep.Fields
import Derived.ChangeSame
import Derived.Test.YtgppfcaghjbjmaaDoorBGlobRules5
import Derived.Test.YtgppfcaghjbjmaaDoorBGlobRules3
import Derived.OwnWalk
import Derived.ArgAppend
import Derived.Deep.Upon
import Derived.Deep.AppendLies

/- Opening of arguments: slices of structs whose fields are one cell each. -/
section
namespace Go.Proofs.YtgppfcaghjbjmaaDoor
open Go.ChangeShapes Go.WideShapes Go.ChangeAt Go.RowKit Go.Deep

/-- Rows of cells, one behind the other from A on. -/
def IsRows (w : World) (size : Nat) (A : Option Addr) (rows : List (List Value)) : Prop :=
  ∀ k (h : k < rows.length), ∃ ad, A = some ad ∧ ∀ j u, rows[k][j]? = some u → w.cell? (ad.add (k * size + j)) = some u
theorem IsRows.below {w w' : World} {size : Nat} {A : Option Addr} {rows : List (List Value)} (h : IsRows w size A rows) (hb : Below w.heap.size w w') : IsRows w' size A rows := by
  intro k hk
  obtain ⟨ad, hA, hc⟩ := h k hk
  exact ⟨ad, hA, fun j u hu => (hb.cell (World.block_lt_of_cell? _ _ (hc j u hu))).trans (hc j u hu)⟩

/-- What the walk asks of a row: its first cell, and the others by their places. -/
theorem IsRows.at_ {w : World} {size : Nat} {A : Option Addr} {rows : List (List Value)} (h : IsRows w size A rows) {k : Nat} (hk : k < rows.length) :
    ∃ ad, A = some ad ∧ (∀ u, rows[k][0]? = some u → w.cell? (ad.add (k * size)) = some u) ∧ ∀ j u, rows[k][j + 1]? = some u → w.cell? ⟨(ad.add (k * size)).block, (ad.add (k * size)).off + (j + 1), none⟩ = some u := by
  obtain ⟨ad, hA, hc⟩ := h k hk
  refine ⟨ad, hA, fun u hu => hc 0 u hu, fun j u hu => ?_⟩
  have h1 := hc (j + 1) u hu
  rw [← add_of_add] at h1
  rw [← h1]
  conv => rhs; rw [Addr.add, if_neg (by omega)]

section
variable {H : Type} {enc : TypeId × Value → H} {P : Program} {w : World} {base : Nat} {held : Bool}
/-- A slice of structs among the arguments: what its elements read as, and its weight. -/
theorem open_rows {α : Type} [Inhabited α] (El : List Value → α → Prop) (wt : α → Nat) {r : Reach} {b0 : Nat} {t e : TypeId} {fs : Array Field} {v : Value} {d : DataW H} {ps : List MemPlace} (ht : P.underlying t = some (.slice e)) (he : P.underlying e = some (.struct fs))
    (hone : oneCellFields P fs = true) (hC : P.cellsOf e = fs.size)
    (hel : ∀ (vs : List Value) (ys : List (DataW H × List MemPlace)) n, vs.length = fs.size → ys.length = fs.size → (∀ (j : Nat) (f : Field), fs[j]? = some f → ∃ v y, vs[j]? = some v ∧ ys[j]? = some y ∧ DataW.trod enc P w base (fun _ => true) held n f.type [v] = some y) →
      ∃ x, El vs x ∧ wt x ≤ Rows.uptoBulk (DataW.agg (ys.map (·.1))))
    (hval : Value.okWide P w r b0 t v) (hd : DataW.Trod enc P w base (fun _ => true) held t v d ps) :
    ∃ A c, ∃ (l : List α) (V : List (List Value)), v = .slice A l.length c ∧ l.length ≤ c ∧ c ≤ maxLen ∧ V.length = l.length ∧ IsRows w fs.size A V ∧ (∀ k (h : k < l.length) (h' : k < V.length), El V[k] l[k]) ∧ (l.map wt).sum ≤ Rows.uptoBulk d := by
  obtain ⟨a0, len, cap, rfl⟩ := okWide_slice ht hval
  obtain ⟨fuel, hf⟩ := hd
  rcases open_slice ht hf with ⟨hcs, hx⟩ | ⟨a, len', cap', m, n, D, Pl, hcs, _, hl, hm, hmm, hx, hcell⟩
  · simp [Value.cells] at hcs
    obtain ⟨rfl, rfl, rfl⟩ := hcs
    exact ⟨none, 0, [], [], rfl, Nat.le_refl _, Nat.zero_le _, rfl, fun k h => absurd h (by simp), by simp, by simp⟩
  · simp [Value.cells] at hcs
    obtain ⟨rfl, rfl, rfl⟩ := hcs
    simp only [if_true] at hmm
    subst hmm
    simp only [Prod.mk.injEq] at hx
    obtain ⟨X, hX⟩ := choose_lt (α := List Value × α) (p := fun i x => x.1.length = fs.size ∧ (∀ j u, x.1[j]? = some u → w.cell? (a.add (i * fs.size + j)) = some u) ∧ El x.1 x.2 ∧ wt x.2 ≤ Rows.uptoBulk (D i)) (n := len) (fun i hi => by
      obtain ⟨cs', hc, ht'⟩ := hcell i (by omega)
      rw [hC] at hc
      obtain ⟨ys, n', hn', hy, hlen, hyl, hf⟩ := DataW.trod_struct he ht'
      obtain ⟨_, hcl, hat⟩ := World.cells?_some hc
      simp only [Prod.mk.injEq] at hy
      obtain ⟨x, hx1, hx2⟩ := hel cs' ys n' hcl hyl (fun j f hj => by
        obtain ⟨ho, hk⟩ := hone_of hone j f hj
        have hjl : j < fs.size := (Array.getElem?_eq_some_iff.1 hj).1
        have hv : cs'[j]? = some (cs'[j]'(by omega)) := List.getElem?_eq_getElem (by omega)
        have h1 := hf j f hj
        rw [ho, hk] at h1
        have hone' : (cs'.drop j).take 1 = [cs'[j]'(by omega)] := by
          rw [List.drop_eq_getElem_cons (by omega)]
          rfl
        rw [hone'] at h1
        have hys : ys[j]? = some (ys[j]'(by omega)) := List.getElem?_eq_getElem (by omega)
        exact ⟨_, _, hv, hys, h1.trans hys⟩)
      refine ⟨(cs', x), hcl, fun j u hu => ?_, hx1, ?_⟩
      · have hj : j < fs.size := by
          have h1 : j < cs'.length := (List.getElem?_eq_some_iff.1 hu).1
          omega
        rw [← Go.Deep.add_add, hat j hj]
        exact hu
      · rw [hy.1]; exact hx2)
    refine ⟨some a, m, (List.range len).map (fun i => (X i).2), (List.range len).map (fun i => (X i).1), by simp, by simpa using hl, hm, by simp, ?_, ?_, ?_⟩
    · intro k h
      have hk : k < len := by simpa using h
      refine ⟨a, rfl, fun j u hu => (hX k hk).2.1 j u ?_⟩
      simpa using hu
    · intro k h h'
      have hk : k < len := by simpa using h
      simpa using (hX k hk).2.2.1
    · rw [hx.1, Rows.uptoBulk, List.map_map]
      have := bulkAll_range len D (fun i => wt (X i).2) (fun i hi => (hX i hi).2.2.2)
      have e : ((List.range len).map (wt ∘ fun i => (X i).2)).sum = ((List.range len).map (fun i => wt (X i).2)).sum := rfl
      omega
end
end Go.Proofs.YtgppfcaghjbjmaaDoor
end

/- A range over a function whose body's variable lies in a block of its own in each round: how the statement is walked at the wide fence. -/
section
namespace Go.Proofs.YtgppfcaghjbjmaaDoor
open Go.RowKit

theorem rangeFunc_box {α : Type} {n : Nat} {P : Program} {g : Operand} {ps : Array Tmp} {assign body : Code} {Q : Exit → Act → World → Prop} {a : Act} {w : World}
    {gf : Nat} {lb : Array Value} (hg : a.eval g = .func (.func gf) #[] lb) (eg : ∀ args w, (callFunc gf args).run P w = .ok (.enter gf args) w)
    {encs : α → Array Value} (hps : ∀ x, (encs x).size = ps.size) (all : List α) (I Ix : List α → World → Prop) (bs : Nat) (hbs : bs < w.heap.size)
    (hseq : ∀ (l : Nat) (J Jx : List α → World → Prop) (W : World), (∀ k, k < w.heap.size → W.heap[k]? = w.heap[k]?) → (∀ pre W v, J pre W → J pre (W.setCell ⟨bs, 0, none⟩ v)) →
      (∀ pre x W1, J pre W1 → YieldAt Fence.wide (n - 1 - 1) P l (encs x) W1 fun e W' =>
        (e = .returned (.bool true) ∧ J (pre ++ [x]) W' ∧ Below w.heap.size W1 W') ∨ (e = .returned (.bool false) ∧ Jx (pre ++ [x]) W')) → J [] W →
      CallsIn Fence.wide (n - 1) P gf (#[.func (.yield l) #[] #[]] ++ lb) W fun e W' => (∃ v, e = .returned v) ∧ (J all W' ∨ ∃ pre, pre <+: all ∧ Jx pre W'))
    (hIst : ∀ pre W v, I pre W → I pre (W.setCell ⟨bs, 0, none⟩ v))
    (hIput : ∀ pre W l o, w.heap.size ≤ l → I pre W → I pre (W.putObj l o)) (hXput : ∀ pre W l o, w.heap.size ≤ l → Ix pre W → Ix pre (W.putObj l o))
    (h0 : ∀ o1 o2, I [] ((w.alloc o1).alloc o2)) (Ax : α → Act → World → Prop) (hAput : ∀ x a' W o, Ax x a' W → Ax x a' (W.putObj (w.heap.size + 1) o))
    (hassign : ∀ (l : Nat) (pre : List α) (x : α) (W : World) (K : Act → World → Prop), I pre W → w.heap.size + 1 < W.heap.size → (∀ a' W', Ax x a' W' → I pre W' → Below W.heap.size W W' → K a' W') →
      assign.wpIn (Fence.wide.inRound l) (n - 1 - 1) P (Exit.then K (fun _ _ _ => False)) { tmps := (ps.zip (encs x)).foldl (fun t (p, v) => t.setIfInBounds p v) a.tmps, defers := [] } W)
    (hbody : ∀ (l : Nat) (pre : List α) (x : α) (a' : Act) (W : World), I pre W → Ax x a' W → w.heap.size + 1 < W.heap.size → body.wpIn (Fence.wide.inRound l) (n - 1 - 1) P (ownRound w.heap.size I Ix (pre ++ [x]) W) a' W)
    (hdone : ∀ (W : World), I all W → W.heap[w.heap.size]? = some (.deferred (some [])) → Q .normal { a with defers := { target := .collected w.heap.size, args := #[] } :: a.defers } W)
    (hstop : ∀ (pre : List α) (W : World), pre <+: all → Ix pre W → W.heap[w.heap.size]? = some (.deferred (some [])) → Code.ret.wpIn Fence.wide n P Q { a with defers := { target := .collected w.heap.size, args := #[] } :: a.defers } W) :
    (Code.rangeFunc g ps assign body).wpIn Fence.wide n P Q a w := by
  refine wpIn_rangeFunc ?_
  intro fn hfn
  obtain ⟨rec, hrec⟩ : ∃ rec : LoopState → Option Code → Loop, rec = fun st pe => { state := st, pending := pe, fn, tmps := a.tmps, params := ps, assign, body, defers := w.heap.size } := ⟨_, rfl⟩
  obtain ⟨W1, hW1⟩ : ∃ W1, (w.alloc (.deferred (some []))).alloc (.loop (rec .ready none)) = W1 := ⟨_, rfl⟩
  have hL1 : W1.heap[w.heap.size + 1]? = some (.loop (rec .ready none)) := by
    rw [← hW1]; have := World.alloc_heap_new (w.alloc (.deferred (some []))) (.loop (rec .ready none)); rwa [World.size_alloc] at this
  have hK1 : W1.heap[w.heap.size]? = some (.deferred (some [])) := by
    rw [← hW1]; exact (Below.heap_alloc _ _ _ (by simp)).trans (World.alloc_heap_new w _)
  have hold : ∀ k, k < w.heap.size → W1.heap[k]? = w.heap[k]? := fun k hk => by
    rw [← hW1]; exact (Below.heap_alloc _ _ _ (by simp; omega)).trans (Below.heap_alloc _ _ _ hk)
  refine ⟨w.heap.size + 1, [{ target := .collected w.heap.size, args := #[] }], W1, { target := .fn (.func gf) lb, args := #[.func (.yield (w.heap.size + 1)) #[] #[]] }, W1, gf,
    #[.func (.yield (w.heap.size + 1)) #[] #[]] ++ lb, W1, ?_, ?_, ?_, ?_, fun h => (by cases h), ?_⟩
  · rw [← hW1, hrec]; exact run_enterLoop_outer _ _ _ _ _
  · simp only [resolve, hg]
    simp [go_sem]
  · intro f' hf'; trivial
  · simp [invoke, go_sem, eg]
  · have hown : ∀ (pre : List α) (W : World) (v : Value), (I pre W ∧ W.heap[w.heap.size + 1]? = some (.loop (rec .ready none)) ∧ W.heap[w.heap.size]? = some (.deferred (some []))) →
        (I pre (W.setCell ⟨bs, 0, none⟩ v) ∧ (W.setCell ⟨bs, 0, none⟩ v).heap[w.heap.size + 1]? = some (.loop (rec .ready none)) ∧ (W.setCell ⟨bs, 0, none⟩ v).heap[w.heap.size]? = some (.deferred (some []))) :=
      fun pre W v ⟨h1, h2, h3⟩ => ⟨hIst _ _ _ h1, (Below.heap_setCell _ _ _ _ (by show w.heap.size + 1 ≠ bs; omega)).trans h2, (Below.heap_setCell _ _ _ _ (by show w.heap.size ≠ bs; omega)).trans h3⟩
    refine (hseq (w.heap.size + 1) (fun pre W => I pre W ∧ W.heap[w.heap.size + 1]? = some (.loop (rec .ready none)) ∧ W.heap[w.heap.size]? = some (.deferred (some []))) (fun pre W => Ix pre W ∧ W.heap[w.heap.size + 1]? = some (.loop (rec .done (some .ret))) ∧ W.heap[w.heap.size]? = some (.deferred (some []))) W1 hold hown ?_ (by have h00 := h0 (.deferred (some [])) (.loop (rec .ready none)); rw [hW1] at h00; exact ⟨h00, hL1, hK1⟩)).mono ?_
    · rintro pre x W ⟨hi, hl, hk⟩
      have hlt : w.heap.size + 1 < W.heap.size := (Array.getElem?_eq_some_iff.1 hl).1
      have hy := run_yield (P := P) (args := encs x) hl (by rw [hrec]; exact hps x)
      rw [hrec] at hy
      refine ⟨fn, _, assign, body, hy, roundIn_of_wpIn hfn (hassign _ pre x W _ hi hlt ?_)⟩
      rintro a' Wa hax hia hbw
      have hla : Wa.heap[w.heap.size + 1]? = some (.loop (rec .ready none)) := (hbw.block _ hlt).trans hl
      have hka : Wa.heap[w.heap.size]? = some (.deferred (some [])) := (hbw.block _ (by omega)).trans hk
      have hlta : w.heap.size + 1 < Wa.heap.size := (Array.getElem?_eq_some_iff.1 hla).1
      refine ⟨_, run_beginRound hla (by rw [hrec]), ?_⟩
      have hl2 : (Wa.putObj (w.heap.size + 1) (.loop { rec .ready none with state := .busy })).heap[w.heap.size + 1]? = some (.loop { rec .ready none with state := .busy }) := World.putObj_heap_same hlta
      have hk2 : (Wa.putObj (w.heap.size + 1) (.loop { rec .ready none with state := .busy })).heap[w.heap.size]? = some (.deferred (some [])) := (World.putObj_heap_other (by omega)).trans hka
      have hs2 : (Wa.putObj (w.heap.size + 1) (.loop { rec .ready none with state := .busy })).heap.size = Wa.heap.size := World.putObj_size
      refine wpIn_mono (hbody _ pre x a' _ (hIput _ _ _ _ (by omega) hia) (hAput _ _ _ _ hax) (by rw [hs2]; omega)) ?_
      have fin : ∀ (jump : Option Code) (W3 : World), (∀ k, w.heap.size ≤ k → k < (Wa.putObj (w.heap.size + 1) (.loop { rec .ready none with state := .busy })).heap.size → W3.heap[k]? = (Wa.putObj (w.heap.size + 1) (.loop { rec .ready none with state := .busy })).heap[k]?) →
          (Instr.endRound (w.heap.size + 1) jump).run P W3 = .ok (.bool jump.isNone) (W3.putObj (w.heap.size + 1) (.loop (rec (if jump.isNone then .ready else .done) jump))) ∧
          (W3.putObj (w.heap.size + 1) (.loop (rec (if jump.isNone then .ready else .done) jump))).heap[w.heap.size + 1]? = some (.loop (rec (if jump.isNone then .ready else .done) jump)) ∧
          (W3.putObj (w.heap.size + 1) (.loop (rec (if jump.isNone then .ready else .done) jump))).heap[w.heap.size]? = some (.deferred (some [])) := fun jump W3 hk3 => by
        have hl3 := (hk3 (w.heap.size + 1) (by omega) (by rw [hs2]; omega)).trans hl2
        have := run_endRound (P := P) jump hl3
        rw [hrec] at this ⊢
        exact ⟨this, World.putObj_heap_same (Array.getElem?_eq_some_iff.1 hl3).1, (World.putObj_heap_other (by omega)).trans ((hk3 w.heap.size (Nat.le_refl _) (by rw [hs2]; omega)).trans hk2)⟩
      rintro e a3 W3 hp
      cases e with
      | normal =>
        obtain ⟨hk3, hb3, hi3⟩ := hp
        obtain ⟨hr, hl4, hk4⟩ := fin none W3 hk3
        exact ⟨_, _, hr, .inl ⟨rfl, ⟨hIput _ _ _ _ (by omega) hi3, hl4, hk4⟩, below_put ((below_put (hbw.mono (by omega)) (by omega) _).trans hb3) (by omega) _⟩⟩
      | ret =>
        obtain ⟨hk3, hi3⟩ := hp
        obtain ⟨hr, hl4, hk4⟩ := fin (some .ret) W3 hk3
        exact ⟨_, _, hr, .inr ⟨rfl, hXput _ _ _ _ (by omega) hi3, hl4, hk4⟩⟩
      | exit id => exact hp.elim
      | goto t => exact hp.elim
      | panic ch => exact hp.elim
      | outgrown => exact hp.elim
    · rintro e W2 ⟨⟨v, rfl⟩, (⟨hi, hl, hk⟩ | ⟨pre, hpre, hi, hl, hk⟩)⟩
      · exact ⟨none, _, by have := run_endLoop (P := P) hl (by rw [hrec]; simp); rw [hrec] at this; exact this, hdone _ (hIput _ _ _ _ (by omega) hi) ((World.putObj_heap_other (by omega)).trans hk)⟩
      · exact ⟨some .ret, _, by have := run_endLoop (P := P) hl (by rw [hrec]; simp); rw [hrec] at this; exact this, hstop pre _ hpre (hXput _ _ _ _ (by omega) hi) ((World.putObj_heap_other (by omega)).trans hk)⟩
end Go.Proofs.YtgppfcaghjbjmaaDoor
end

/- slices.Backward; glob.last. -/
section
namespace Go.Proofs.YtgppfcaghjbjmaaDoor
open Go.RowKit Go.Shelf Plain
attribute [local go_sem] Oper.semAt_some

def ruleV (r : Rule) : List Value := [.bool r.ign, .string ⟨r.pat.toArray⟩]
def RulesAt (w : World) (A : Option Addr) (l : List Rule) : Prop := IsRows w 2 A (l.map ruleV)
section
variable {w w' : World} {A : Option Addr} {l : List Rule}
theorem RulesAt.below (h : RulesAt w A l) (hb : Below w.heap.size w w') : RulesAt w' A l := IsRows.below h hb
theorem RulesAt.at_ (h : RulesAt w A l) {k : Nat} (hk : k < l.length) : ∃ ad, A = some ad ∧ w.cell? (ad.add (k * 2)) = some (.bool l[k].ign) ∧ w.cell? ⟨(ad.add (k * 2)).block, (ad.add (k * 2)).off + 1, none⟩ = some (.string ⟨l[k].pat.toArray⟩) := by
  obtain ⟨ad, hA, h0, h1⟩ := IsRows.at_ h (k := k) (by simpa using hk)
  exact ⟨ad, hA, h0 _ (by simp [ruleV]), h1 0 _ (by simp [ruleV])⟩
theorem cell_hold {p : Addr} {v : Value} (hh : ∀ k, k < w.heap.size → w'.heap[k]? = w.heap[k]?) (h : w.cell? p = some v) : w'.cell? p = some v := by
  have := World.block_lt_of_cell? _ _ h
  rw [← h]; unfold World.cell?; rw [hh _ this]
theorem RulesAt.hold (h : RulesAt w A l) (hh : ∀ k, k < w.heap.size → w'.heap[k]? = w.heap[k]?) : RulesAt w' A l := by
  intro k hk
  obtain ⟨ad, hA, hc⟩ := h k hk
  exact ⟨ad, hA, fun j u hu => cell_hold hh (hc j u hu)⟩
end
instance : Inhabited Rule := ⟨⟨[], false⟩⟩
/-- the first k rules, the last of them first -/
def backs (l : List Rule) : Nat → List (Nat × Rule)
  | 0 => []
  | k + 1 => (k, l.getD k default) :: backs l k
theorem backs_snd (l : List Rule) : ∀ k, k ≤ l.length → (backs l k).map (·.2) = (l.take k).reverse
  | 0, _ => rfl
  | k + 1, h => by
    show l.getD k default :: (backs l k).map (·.2) = _
    rw [backs_snd l k (by omega), List.take_succ_eq_append_getElem (by omega), List.reverse_append]
    simp [List.getD, show k < l.length by omega]
def encR (x : Nat × Rule) : Array Value := #[.int .i64 (x.1 : Nat), .agg #[.bool x.2.ign, .string ⟨x.2.pat.toArray⟩]]
theorem lastG_none {l : List Rule} {s : List UInt8} (h : ∀ x ∈ backs l l.length, matchG x.2.pat s = false) : lastG l s = false := by
  have hb := backs_snd l l.length (Nat.le_refl _)
  rw [List.take_of_length_le (Nat.le_refl _)] at hb
  unfold lastG lastR
  rw [← hb]
  have : ((backs l l.length).map (·.2)).find? (fun r => matchG r.pat s) = none := by
    rw [List.find?_eq_none]
    intro r hr
    obtain ⟨x, hx, rfl⟩ := List.mem_map.1 hr
    rw [h x hx]; decide
  rw [this]
theorem lastG_some {l : List Rule} {s : List UInt8} {p : List (Nat × Rule)} {x : Nat × Rule} (hp : p ++ [x] <+: backs l l.length) (h : ∀ y ∈ p, matchG y.2.pat s = false) (hx : matchG x.2.pat s = true) : lastG l s = x.2.ign := by
  have hb := backs_snd l l.length (Nat.le_refl _)
  rw [List.take_of_length_le (Nat.le_refl _)] at hb
  obtain ⟨t, ht⟩ := hp
  unfold lastG lastR
  rw [← hb, ← ht, List.append_assoc, List.map_append, List.find?_append]
  have : (p.map (·.2)).find? (fun r => matchG r.pat s) = none := by
    rw [List.find?_eq_none]
    intro r hr
    obtain ⟨y, hy, rfl⟩ := List.mem_map.1 hr
    rw [h y hy]; decide
  rw [this]
  simp [hx]

set_option maxHeartbeats 2000000 in
theorem backward1_in (n l b1 c : Nat) (w : World) (rules : List Rule) (A : Option Addr) (J Jx : List (Nat × Rule) → World → Prop)
    (hlen : rules.length ≤ 4294967296) (hR : RulesAt w A rules) (hc1 : w.cell? ⟨b1, 0, none⟩ = some (.slice A rules.length c))
    (hY : ∀ pre x W1, J pre W1 → YieldAt Fence.wide (n - 1) Tryd.prog l (encR x) W1 fun e W' =>
      (e = .returned (.bool true) ∧ J (pre ++ [x]) W' ∧ Below w.heap.size W1 W') ∨ (e = .returned (.bool false) ∧ Jx (pre ++ [x]) W'))
    (W : World) (hold : ∀ k, k < w.heap.size → W.heap[k]? = w.heap[k]?) (h0 : J [] W) :
    CallsIn Fence.wide n Tryd.prog 73 #[.func (.yield l) #[] #[], .pointer (some ⟨b1, 0, none⟩)] W fun e W' => (∃ v, e = .returned v) ∧ (J (backs rules rules.length) W' ∨ ∃ pre, pre <+: backs rules rules.length ∧ Jx pre W') := by
  have HJ := Lib.hid h0
  have HY := Lib.hid hY
  have HH := Lib.hid hold
  have HC := Lib.hid hc1
  have HRL := Lib.hid hR
  have hcW := cell_hold hold hc1
  have e0 : IntKind.i64.wrap ((rules.length : Int) - 1) = (rules.length : Int) - 1 := IntWalk.i64_in _ (by omega)
  clear hY hold hc1 hR h0
  refine callsIn_of_wp Tryd.func73 rfl trivial ?_ rfl
  simp only [Tryd.ntmps73, List.size_toArray, List.length_cons, List.length_nil, Nat.reduceAdd, Nat.reduceSub, Array.replicate_succ, Array.replicate_zero, List.push_toArray, List.append_toArray, List.nil_append, List.cons_append]
  gi_wp2
  gi_loopw [3] (fun t3 W' => ∃ (k : Nat) (d : List (Nat × Rule)), k ≤ rules.length ∧ t3 = .int .i64 ((k : Int) - 1) ∧ Hid (backs rules rules.length = d ++ backs rules k) ∧ Hid (∀ j, j < w.heap.size → W'.heap[j]? = w.heap[j]?) ∧ Hid (J d W')) (fun t3 _ => (intOf t3 + 1).toNat)
  case atStart => exact ⟨rules.length, [], Nat.le_refl _, rfl, Lib.hid rfl, HH, HJ⟩
  case round =>
    clear hcW HJ HH
    obtain ⟨k, d, hk, rfl, HP, HH, HJ⟩ := hrel
    have hcW := cell_hold HH.out HC.out
    rcases k with _ | j
    · gi_wp2
      go_end0
      exact ⟨⟨_, rfl⟩, .inl (by rw [HP.out]; simpa [backs] using HJ.out)⟩
    · have e1 : ((j + 1 : Nat) : Int) - 1 = j := by omega
      rw [e1]
      obtain ⟨ad, rfl, h1, h2⟩ := (HRL.out.hold HH.out).at_ (k := j) (by omega)
      have hx : backs rules (j + 1) = (j, rules[j]) :: backs rules j := by
        show (j, rules.getD j default) :: backs rules j = _
        simp [List.getD, show j < rules.length by omega]
      have hy := HY.out d (j, rules[j]) wr HJ.out
      unfold encR at hy
      obtain ⟨fn, tmps, assign, body, hy, hR⟩ := hy
      have HR := Lib.hid hR
      have HX := Lib.hid hx
      have j0 : (0 : Int) ≤ j := by omega
      have j1 : (j : Int) < rules.length := by omega
      have e2 : IntKind.i64.wrap ((j : Int) - 1) = (j : Int) - 1 := IntWalk.i64_in _ (by omega)
      clear hR hx
      simp only at hy
      generalize rules[j] = ru at *
      gi_wp2
      refine ⟨fun h => (by cases h), HR.out.mono ?_⟩
      rintro e W3 (⟨rfl, hJ3, hk3⟩ | ⟨rfl, hJx3⟩)
      · have HJ3 := Lib.hid hJ3
        have HH3 := Lib.hid (fun i hi => (hk3.block i hi).trans (HH.out i hi))
        clear hJ3 hk3 hcW h1 h2 hy
        gi_wp2
        go_roundw
        case rel => exact ⟨j, d ++ [(j, ru)], by omega, rfl, Lib.hid (by rw [HP.out, HX.out]; simp), HH3, HJ3⟩
        case measure => simp [intOf]
      · gi_wp2
        refine bodyPost_ret (results_none rfl _ _ _) rfl ?_
        exact ⟨⟨_, rfl⟩, .inr ⟨_, ⟨backs rules j, by rw [HP.out, HX.out]; simp⟩, hJx3⟩⟩

theorem Backward_any (A : Option Addr) (n c : Nat) (w : World) :
    Calls Tryd.prog 52 #[.slice A n c] w fun e w' =>
      e = .returned (.func (.func 73) #[] #[.pointer (some ⟨w.heap.size, 0, none⟩)]) ∧ w' = w.alloc (.cells #[.slice A n c] 28) := by
  go_enter Tryd.func52, Tryd.ntmps52
  go_wp2_with (fail)
  go_ret
  exact ⟨rfl, rfl⟩

/-- What the loop keeps. -/
def LastI (w : World) (s : List UInt8) (pre : List (Nat × Rule)) (W : World) : Prop :=
  (∀ x ∈ pre, matchG x.2.pat s = false) ∧ Below w.heap.size w W ∧ W.cell? ⟨w.heap.size, 0, none⟩ = some (.string ⟨s.toArray⟩) ∧ W.cell? ⟨w.heap.size + 1, 0, none⟩ = some (.bool false) ∧ W.frozen? ⟨w.heap.size + 1, 0, none⟩ = false
def LastX (w : World) (s : List UInt8) (pre : List (Nat × Rule)) (W : World) : Prop :=
  (∃ p x, pre = p ++ [x] ∧ (∀ y ∈ p, matchG y.2.pat s = false) ∧ matchG x.2.pat s = true ∧ W.cell? ⟨w.heap.size + 1, 0, none⟩ = some (.bool x.2.ign)) ∧ Below w.heap.size w W

set_option maxHeartbeats 4000000 in
theorem last_any (rules : List Rule) (A : Option Addr) (c : Nat) (s : List UInt8) (m : Int) (w : World) (hL : Laid w m) (hR : RulesAt w A rules) (hlen : rules.length ≤ 4294967296) :
    Calls Tryd.prog 34 #[.slice A rules.length c, .string ⟨s.toArray⟩] w (Ret w (.bool (lastG rules s))) := by
  have HM := Lib.hid (fun p W (h : Below w.heap.size w W) => Match_all p s m W (hL.below h))
  have HBK := Lib.hid (fun W => Backward_any A rules.length c W)
  have HRR := Lib.hid hR
  clear hL hR
  refine (callsIn_wide (n := 5)).1 ?_
  refine callsIn_of_wp_marks Tryd.func34 rfl trivial ?_ rfl
  simp only [Tryd.ntmps34, List.size_toArray, List.length_cons, List.length_nil, Nat.reduceAdd, Nat.reduceSub, Array.replicate_succ, Array.replicate_zero, List.push_toArray, List.append_toArray, List.nil_append, List.cons_append]
  gi_wp2
  refine ⟨trivial, (callsIn_wide.2 (HBK.out _)).mono ?_⟩
  rintro e w1 ⟨rfl, hw1⟩
  have hsz : w1.heap.size = w.heap.size + 3 := by rw [hw1]; simp
  have hB0 : Below w.heap.size w w1 := by
    rw [hw1]; exact (((Below.refl _ _).alloc (Nat.le_refl _) _).alloc (by simp) _).alloc (by simp; omega) _
  have hc0 : w1.cell? ⟨w.heap.size, 0, none⟩ = some (.string ⟨s.toArray⟩) := by rw [hw1]; simp [go_sem]
  have hc1 : w1.cell? ⟨w.heap.size + 1, 0, none⟩ = some (.bool false) := by rw [hw1]; simp [go_sem]
  have hf1 : w1.frozen? ⟨w.heap.size + 1, 0, none⟩ = false := by rw [hw1]; simp [go_sem]
  have hc2 : w1.cell? ⟨w.heap.size + 1 + 1, 0, none⟩ = some (.slice A rules.length c) := by rw [hw1]; simp [go_sem]
  simp only [World.size_alloc]
  clear hw1
  have HB0 := Lib.hid hB0
  have HC := Lib.hid (And.intro hc0 (And.intro hc1 (And.intro hf1 hc2)))
  have HSZ := Lib.hid hsz
  clear hsz hB0 hc0 hc1 hf1 hc2
  gi_wp2
  refine rangeFunc_box (n := 5) (gf := 73) (lb := #[.pointer (some ⟨w.heap.size + 1 + 1, 0, none⟩)]) ?c0 (enters_of Tryd.func73 (by kernel_rfl) rfl) (encs := encR) (fun _ => rfl) (backs rules rules.length) (LastI w s) (LastX w s) (w.heap.size + 1 + 1) (by rw [HSZ.out]; omega) ?hseq ?hst ?hput ?hxput ?h0
    (fun x a' W => ∃ bx, w1.heap.size + 2 ≤ bx ∧ W.cell? ⟨bx, 0, none⟩ = some (.bool x.2.ign) ∧ W.cell? ⟨bx, 1, none⟩ = some (.string ⟨x.2.pat.toArray⟩) ∧ a' = { tmps := #[.slice A rules.length c, .string ⟨s.toArray⟩, undef, .pointer (some ⟨w.heap.size, 0, none⟩), .pointer (some ⟨w.heap.size + 1, 0, none⟩), undef, .pointer (some ⟨bx, 0, none⟩), .slice A rules.length c, .func (.func 73) #[] #[.pointer (some ⟨w.heap.size + 1 + 1, 0, none⟩)], .int .i64 (x.1 : Nat), .agg #[.bool x.2.ign, .string ⟨x.2.pat.toArray⟩], undef, undef, undef, undef, undef, undef], defers := [] }) ?haput ?assign ?body ?done ?stop
  case c0 => rfl
  case hseq =>
    intro l J Jx W hold hst hY h0
    obtain ⟨k1, k2, k3, k4⟩ := HC.out
    exact backward1_in (5 - 1) l (w.heap.size + 1 + 1) c w1 rules A J Jx hlen (HRR.out.below HB0.out) k4 hY W hold h0
  case hst =>
    rintro pre W v ⟨h1, h2, h3, h4, h5⟩
    exact ⟨h1, h2.setCell (by show w.heap.size ≤ w.heap.size + 1 + 1; omega) _, by rw [World.cell?_setCell_other _ _ _ _ (by intro e; injection e with e; omega)]; exact h3, by rw [World.cell?_setCell_other _ _ _ _ (by intro e; injection e with e; omega)]; exact h4, by rw [World.frozen?_setCell]; exact h5⟩
  case hput =>
    rintro pre W l o hl ⟨h1, h2, h3, h4, h5⟩
    rw [HSZ.out] at hl
    have hk0 : (W.putObj l o).heap[w.heap.size]? = W.heap[w.heap.size]? := World.putObj_heap_other (by omega)
    have hk1 : (W.putObj l o).heap[w.heap.size + 1]? = W.heap[w.heap.size + 1]? := World.putObj_heap_other (by omega)
    refine ⟨h1, below_put h2 (by omega) _, ?_, ?_, ?_⟩
    · rw [← h3]; unfold World.cell?; simp only [hk0]
    · rw [← h4]; unfold World.cell?; simp only [hk1]
    · rw [← h5]; unfold World.frozen?; simp only [hk1]
  case hxput =>
    rintro pre W l o hl ⟨⟨p, x, e, h1, h2, h3⟩, h4⟩
    rw [HSZ.out] at hl
    have hk1 : (W.putObj l o).heap[w.heap.size + 1]? = W.heap[w.heap.size + 1]? := World.putObj_heap_other (by omega)
    refine ⟨⟨p, x, e, h1, h2, ?_⟩, below_put h4 (by omega) _⟩
    rw [← h3]; unfold World.cell?; simp only [hk1]
  case h0 =>
    intro o1 o2
    obtain ⟨k1, k2, k3, k4⟩ := HC.out
    have hlt := World.block_lt_of_cell? _ _ k1
    have hlt1 := World.block_lt_of_cell? _ _ k2
    have hbb := (((Below.refl w1.heap.size w1).alloc (Nat.le_refl _) o1).alloc (by simp) o2)
    exact ⟨(fun x hx => by cases hx), HB0.out.trans (hbb.mono HB0.out.size), (hbb.cell (p := ⟨w.heap.size, 0, none⟩) hlt).trans k1, (hbb.cell (p := ⟨w.heap.size + 1, 0, none⟩) hlt1).trans k2, (hbb.frozen (p := ⟨w.heap.size + 1, 0, none⟩) hlt1).trans k3⟩
  case haput =>
    rintro x a' W o ⟨bx, hb, h1, h2, h3⟩
    have hk : (W.putObj (w1.heap.size + 1) o).heap[bx]? = W.heap[bx]? := World.putObj_heap_other (by omega)
    refine ⟨bx, hb, ?_, ?_, h3⟩
    · rw [← h1]; unfold World.cell?; simp only [hk]
    · rw [← h2]; unfold World.cell?; simp only [hk]
  case assign =>
    intro l pre x W K hI hlt hK
    unfold encR
    gi_wp2
    obtain ⟨h1, h2, h3, h4, h5⟩ := hI
    have hbb := (Below.refl W.heap.size W).alloc (Nat.le_refl _) (Obj.cells #[Value.bool x.2.ign, Value.string ⟨x.2.pat.toArray⟩] 30)
    have hlt0 := World.block_lt_of_cell? _ _ h3
    have hlt1 := World.block_lt_of_cell? _ _ h4
    exact hK _ _ ⟨W.heap.size, by omega, by simp [go_sem], by simp [go_sem], rfl⟩ ⟨h1, h2.trans (hbb.mono h2.size), (hbb.cell (p := ⟨w.heap.size, 0, none⟩) hlt0).trans h3, (hbb.cell (p := ⟨w.heap.size + 1, 0, none⟩) hlt1).trans h4, (hbb.frozen (p := ⟨w.heap.size + 1, 0, none⟩) hlt1).trans h5⟩ hbb
  case body =>
    rintro l pre x a' W ⟨h1, h2, h3, h4, h5⟩ ⟨bx, hb, b1, b2, rfl⟩ hlt
    obtain ⟨xi, ru⟩ := x
    simp only at b1 b2 ⊢
    have hN := HM.out ru.pat W h2
    have H1 := Lib.hid h1
    have hlt0 := World.block_lt_of_cell? _ _ h3
    have hlt1 := World.block_lt_of_cell? _ _ h4
    have hltb := World.block_lt_of_cell? _ _ b1
    clear h1
    cases hx : matchG ru.pat s with
    | true =>
      rw [hx] at hN
      have HN := Lib.hid hN
      have HX := Lib.hid hx
      clear hN hx
      gi_wp2
      refine ⟨trivial, (CallsIn.inRound l (callsIn_wide.2 HN.out)).mono ?_⟩
      rintro e w2 ⟨rfl, hw2⟩
      have h4' := (hw2.cell (p := ⟨w.heap.size + 1, 0, none⟩) hlt1).trans h4
      have h5' := (hw2.frozen (p := ⟨w.heap.size + 1, 0, none⟩) hlt1).trans h5
      have b1' := (hw2.cell (p := ⟨bx, 0, none⟩) hltb).trans b1
      clear h3 h4 h5 b1 b2
      gi_wp2
      refine ⟨fun k q1 q2 => ?_, ⟨pre, (xi, ru), rfl, H1.out, HX.out, World.cell?_setCell_same' _ _ _ (by rw [h4']; rfl)⟩, ?_⟩
      · rw [HSZ.out] at q1
        exact (Below.heap_setCell _ _ _ _ (by show k ≠ w.heap.size + 1; omega)).trans (hw2.block k q2)
      · exact (h2.trans (hw2.mono h2.size)).setCell (by show w.heap.size ≤ w.heap.size + 1; omega) _
    | false =>
      rw [hx] at hN
      have HN := Lib.hid hN
      have HX := Lib.hid hx
      clear hN hx
      gi_wp2
      refine ⟨trivial, (CallsIn.inRound l (callsIn_wide.2 HN.out)).mono ?_⟩
      rintro e w2 ⟨rfl, hw2⟩
      gi_wp2
      refine ⟨fun k h1 h2 => hw2.block k h2, hw2.mono (by omega), fun y hy => ?_, h2.trans (hw2.mono h2.size), (hw2.cell (p := ⟨w.heap.size, 0, none⟩) hlt0).trans h3, (hw2.cell (p := ⟨w.heap.size + 1, 0, none⟩) hlt1).trans h4, (hw2.frozen (p := ⟨w.heap.size + 1, 0, none⟩) hlt1).trans h5⟩
      rw [List.mem_append, List.mem_singleton] at hy
      rcases hy with hy | rfl
      · exact H1.out y hy
      · exact HX.out
  case done =>
    rintro W ⟨h1, h2, h3, h4, h5⟩ hK
    have HA := Lib.hid (lastG_none h1)
    clear h1
    have hlt := World.block_lt_of_cell? _ _ h4
    have hK' : (W.setCell ⟨w.heap.size + 1, 0, none⟩ (.bool false)).heap[w1.heap.size]? = some (.deferred (some [])) := (Below.heap_setCell _ _ _ _ (by show w1.heap.size ≠ w.heap.size + 1; rw [HSZ.out]; omega)).trans hK
    gi_wp2
    refine ⟨by simp, .inl ⟨_, _, rfl, run_takeDeferred hK', ?_⟩⟩
    have hcell : ((W.setCell ⟨w.heap.size + 1, 0, none⟩ (.bool false)).putObj w1.heap.size (.deferred none)).cell? ⟨w.heap.size + 1, 0, none⟩ = some (.bool false) := by
      have hk : ((W.setCell ⟨w.heap.size + 1, 0, none⟩ (.bool false)).putObj w1.heap.size (.deferred none)).heap[w.heap.size + 1]? = (W.setCell ⟨w.heap.size + 1, 0, none⟩ (.bool false)).heap[w.heap.size + 1]? := World.putObj_heap_other (by rw [HSZ.out]; omega)
      have h5 : (W.setCell ⟨w.heap.size + 1, 0, none⟩ (.bool false)).cell? ⟨w.heap.size + 1, 0, none⟩ = some (.bool false) := World.cell?_setCell_same' _ _ _ (by rw [h4]; rfl)
      rw [← h5]; unfold World.cell?; simp only [hk]
    refine ⟨_, results_cell_one Tryd.results34 _ _ ⟨w.heap.size + 1, 0, none⟩ _ rfl hcell Tryd.isAgg4, ?_⟩
    exact ⟨by rw [HA.out], below_put (h2.setCell (by show w.heap.size ≤ w.heap.size + 1; omega) _) (by rw [HSZ.out]; omega) _⟩
  case stop =>
    rintro pre W hpre ⟨⟨p, x, rfl, h1, h2, h3⟩, h4⟩ hK
    have HA := Lib.hid (lastG_some hpre h1 h2)
    clear h1 h2 hpre
    gi_wp2
    refine ⟨by simp, .inl ⟨_, _, rfl, run_takeDeferred hK, ?_⟩⟩
    have hcell : (W.putObj w1.heap.size (.deferred none)).cell? ⟨w.heap.size + 1, 0, none⟩ = some (.bool x.2.ign) := by
      have hk : (W.putObj w1.heap.size (.deferred none)).heap[w.heap.size + 1]? = W.heap[w.heap.size + 1]? := World.putObj_heap_other (by rw [HSZ.out]; omega)
      rw [← h3]; unfold World.cell?; simp only [hk]
    refine ⟨_, results_cell_one Tryd.results34 _ _ ⟨w.heap.size + 1, 0, none⟩ _ rfl hcell Tryd.isAgg4, ?_⟩
    exact ⟨by rw [HA.out], below_put h4 (by rw [HSZ.out]; omega) _⟩
end Go.Proofs.YtgppfcaghjbjmaaDoor
end

/- glob.Ignored. -/
section
namespace Go.Proofs.YtgppfcaghjbjmaaDoor
open Go.RowKit Plain

set_option maxHeartbeats 2000000 in
theorem Ignored_any (rules : List Rule) (A : Option Addr) (c : Nat) (s : List UInt8) (m : Int) (w : World) (hL : Laid w m) (hR : RulesAt w A rules) (hlen : rules.length ≤ 4294967296) (hs : s.length ≤ 9223372036854775807) :
    Calls Tryd.prog 13 #[.slice A rules.length c, .string ⟨s.toArray⟩] w (Ret w (.bool (ignG rules s))) := by
  have hP := Path_any s w hL.tabs
  cases hok : pathOK s with
  | false =>
    rw [hok] at hP
    have HP := Lib.hid hP
    have HI := Lib.hid (show ignG rules s = false by unfold ignG; rw [hok]; rfl)
    clear hP hok hL hR hlen hs
    go_enter Tryd.func13, Tryd.ntmps13
    go_wp2_with (fail)
    refine HP.out.mono ?_
    rintro e w1 ⟨rfl, hw1⟩
    go_wp2_with (fail)
    go_ret
    exact ⟨by rw [HI.out]; rfl, hw1⟩
  | true =>
    rw [hok] at hP
    have HP := Lib.hid hP
    have HLA := Lib.hid (fun q W (h : Below w.heap.size w W) (_ : q.length ≤ s.length) => last_any rules A c q m W (hL.below h) (hR.below h) hlen)
    have HPA := Lib.hid (fun q W (h : Below w.heap.size w W) (hq : q.length ≤ s.length) => Parent_any q W (hL.below h).tabs (by omega))
    have HNE := Lib.hid (pathOK_ne hok)
    have HOK := Lib.hid hok
    clear hP hok hL hR hlen hs
    go_enter Tryd.func13, Tryd.ntmps13
    go_wp2_with (fail)
    refine HP.out.mono ?_
    rintro e w1 ⟨rfl, hw1⟩
    have HB1 := Lib.hid hw1
    clear hw1
    go_wp2_with (fail)
    go_loopw [5] (fun t5 W => ∃ q : List UInt8, t5 = .string ⟨q.toArray⟩ ∧ q.length ≤ s.length ∧ Hid ((q = [] → ignG rules s = false) ∧ (q ≠ [] → pathOK q = true ∧ ignG rules s = ignG rules q)) ∧ Hid (Below w.heap.size w W)) (fun t5 _ => strLenG t5)
    case atStart => exact ⟨s, rfl, Nat.le_refl _, Lib.hid ⟨fun e => absurd e HNE.out, fun _ => ⟨HOK.out, rfl⟩⟩, HB1⟩
    case round =>
      clear HB1 HNE HOK
      obtain ⟨q, rfl, hql, HQ, HB⟩ := hrel
      by_cases hq0 : q = []
      · have HI := Lib.hid (HQ.out.1 hq0)
        subst hq0
        go_wp2_with (fail)
        go_ret
        exact ⟨by rw [HI.out]; rfl, HB.out⟩
      · obtain ⟨hqok, hqi⟩ := HQ.out.2 hq0
        have hne : q.isEmpty = false := by cases q; exact absurd rfl hq0; rfl
        have hst := ignG_step rules hqok
        have hLQ := HLA.out q wr HB.out hql
        cases hlg : lastG rules q with
        | true =>
          rw [hlg] at hLQ hst
          have HLQ := Lib.hid hLQ
          have HI := Lib.hid (show ignG rules s = true by rw [hqi, hst]; rfl)
          clear hLQ hst hqi hqok hq0 hlg
          go_wp2_with (fail)
          refine HLQ.out.mono ?_
          rintro e w2 ⟨rfl, hw2⟩
          go_wp2_with (fail)
          go_ret
          exact ⟨by rw [HI.out]; rfl, HB.out.trans (hw2.mono HB.out.size)⟩
        | false =>
          rw [hlg, Bool.false_or] at hst
          rw [hlg] at hLQ
          have HLQ := Lib.hid hLQ
          have hpl : (parentM q).length < q.length := by
            by_cases e : parentM q = []
            · rw [e]; exact List.length_pos_iff.2 hq0
            · exact parent_shorter hqok e
          have HN := Lib.hid (show (parentM q = [] → ignG rules s = false) ∧ (parentM q ≠ [] → pathOK (parentM q) = true ∧ ignG rules s = ignG rules (parentM q)) from
            ⟨fun e => by rw [hqi, hst, if_pos e], fun e => ⟨parent_ok hqok e, by rw [hqi, hst, if_neg e]⟩⟩)
          have HPQ := Lib.hid (fun W h => HPA.out q W h hql)
          clear hLQ hst hqi hqok hq0 hlg
          generalize parentM q = pq at *
          go_wp2_with (fail)
          refine HLQ.out.mono ?_
          rintro e w2 ⟨rfl, hw2⟩
          have hB2 := HB.out.trans (hw2.mono HB.out.size)
          clear hw2
          go_wp2_with (fail)
          refine (HPQ.out _ hB2).mono ?_
          rintro e w3 ⟨rfl, hw3⟩
          have HB3 := Lib.hid (hB2.trans (hw3.mono hB2.size))
          clear hw3 hB2
          go_wp2_with (fail)
          go_roundw
          case rel => exact ⟨pq, rfl, by omega, HN, HB3⟩
          case measure => simp [strLenG, ByteArray.size]; exact hpl
end Go.Proofs.YtgppfcaghjbjmaaDoor
end

/- Two slices of the call's own that grow side by side: append tells where its result lies. -/
section
namespace Go.Proofs.YtgppfcaghjbjmaaDoor
open Go.RowKit

theorem own_base {w : World} {base base' : Nat} {e : TypeId} {size n : Nat} {v : Value} {xs : List Value} (h : w.ownsRow base e size v n xs) (hb : base' ≤ base) : w.ownsRow base' e size v n xs :=
  ⟨h.1, h.2.imp id fun ⟨g, cap, cur, hv, hg, hr⟩ => ⟨g, cap, cur, hv, Nat.le_trans hb hg, hr⟩⟩

/-- v' lies where v lay, or in a block that is new. -/
def Lies (w : World) (v v' : Value) : Prop := ∀ k, v'.ownBlock = some k → v.ownBlock = some k ∨ w.heap.size ≤ k
/-- no block holds both -/
def Apart (v u : Value) : Prop := ∀ k, v.ownBlock = some k → u.ownBlock ≠ some k
theorem Apart.symm {v u : Value} (h : Apart v u) : Apart u v := fun k hu hv => h k hv hu
theorem Apart.nil (u : Value) (n c : Nat) : Apart (.slice none n c) u := fun k h => by cases h
theorem Apart.lies {w : World} {v v' u : Value} {base : Nat} {e : TypeId} {size n : Nat} {xs : List Value} (h : Apart v u) (hl : Lies w v v') (hu : w.ownsRow base e size u n xs) : Apart v' u := by
  intro k hk he
  rcases hl k hk with h1 | h1
  · exact h k h1 he
  · have := (hu.lt k he).2; omega
theorem Apart.kept {w w' : World} {v u : Value} {base : Nat} {e : TypeId} {size n : Nat} {xs : List Value} (h : Apart v u) (hu : w.ownsRow base e size u n xs) (hg : w.grownBy w' v.ownBlock) : w'.ownsRow base e size u n xs :=
  hu.kept hg (by
    cases hv : u.ownBlock with
    | none => exact .inl rfl
    | some k => exact .inr (fun e => h k e.symm hv))

theorem wpList_append_two {P : Program} {w : World} {ops : Array Oper} {rest : List Oper} {o : Oper} {a : Act} {Q : Exit → Act → World → Prop} (hgd : o.guard = none) (s x : Operand) (t : TypeId)
    (ho : o.op = .call { callee := .builtin .append, args := #[s, x], argTypes := #[t, t] })
    (base : Nat) (e : TypeId) (i : TypeInfo) (z : Value) (size bytes : Nat) (ht : P.underlying t = some (.slice e)) (hi : P.info? e = some i) (hz : i.zero = some z)
    (hsize : i.size = size) (hby : i.bytes = bytes) (hzs : z.cells.size = size) (hsz : 0 < size)
    (v : Value) (n : Nat) (xs : List Value) (hs : a.eval s = v) (hown : w.ownsRow base e size v n xs)
    (ad : Addr) (m c : Nat) (news : List Value) (hx : a.eval x = .slice (some ad) m c) (hl : news.length = m * size) (hnews : ∀ j u, news[j]? = some u → w.cell? (ad.add j) = some u) (h1 : ∀ u ∈ news, u.oneCell' = true)
    (h63 : n + m ≤ maxLen) (hbytes : (n + m) * bytes ≤ 140737488355328) (hbase : base ≤ w.heap.size)
    (h : ∀ v' w', w'.ownsRow base e size v' (n + m) (xs ++ news) → w.grownBy w' v.ownBlock → Lies w v v' → wpList P ops Q rest (a.put o.dst v') w') : wpList P ops Q (o :: rest) a w := by
  rcases hown.2 with ⟨hv, hn⟩ | ⟨g, cap, cur, hv, hbg, hg, hnc, hcm, hcs, htake⟩
  · subst hv
    subst hn
    have hx0 : xs = [] := List.eq_nil_of_length_eq_zero (by simpa using hown.1)
    subst hx0
    exact wpList_append_own w hgd s x t ho w.heap.size e i z size bytes ht hi hz hsize hby hzs hsz _ _ _ hs (World.ownsRow_nil _ _ _ _) ad m c news hx hl hnews h1 h63 hbytes (Nat.le_refl _)
      fun v' w' h2 h3 _ => h v' w' (own_base h2 hbase) h3 (fun k hk => .inr (h2.lt k hk).1)
  · subst hv
    by_cases hroom : n + m ≤ cap
    · exact wpList_append_fits w hgd s x t ho base e i size ht hi hsize g n cap xs hs hown ad m c news hx hl hnews h1 hroom fun w' h2 h3 => h _ w' h2 h3 (fun k hk => .inl hk)
    · exact wpList_append_grows w hgd s x t ho e i z size bytes ht hi hz hsize hby hzs hsz (some ⟨g, 0, none⟩) n cap xs hs (fun e => by cases e) hown.1 (fun b hb j u hu => by
        injection hb with hb
        subst hb
        exact hown.cells (g := g) rfl j u hu) ad m c news hx hl hnews h1 (by omega) h63 hbytes
        fun v' w' h2 h3 => h v' w' (own_base h2 hbase) ⟨h3.os, h3.tape, h3.output, h3.size, fun k hk _ => h3.block k hk (by simp)⟩ (fun k hk => .inr (h2.lt k hk).1)
end Go.Proofs.YtgppfcaghjbjmaaDoor
end

/- append(s, x...): a slice (it may be nil) behind a row of the call's own. -/
section
namespace Go.Proofs.YtgppfcaghjbjmaaDoor
open Go.RowKit

theorem wpList_append_slice {P : Program} {w : World} {ops : Array Oper} {rest : List Oper} {o : Oper} {a : Act} {Q : Exit → Act → World → Prop} (hgd : o.guard = none) (s x : Operand) (t : TypeId)
    (ho : o.op = .call { callee := .builtin .append, args := #[s, x], argTypes := #[t, t] })
    (base : Nat) (e : TypeId) (i : TypeInfo) (z : Value) (size bytes : Nat) (ht : P.underlying t = some (.slice e)) (hi : P.info? e = some i) (hz : i.zero = some z)
    (hsize : i.size = size) (hby : i.bytes = bytes) (hzs : z.cells.size = size) (hsz : 0 < size)
    (A : Option Addr) (n cap : Nat) (xs : List Value) (hs : a.eval s = .slice A n cap) (hown : w.ownsRow base e size (.slice A n cap) n xs)
    (X : Option Addr) (m c : Nat) (news : List Value) (hx : a.eval x = .slice X m c) (hl : Reads w size X m news) (h1 : ∀ u ∈ news, u.oneCell' = true)
    (h63 : n + m ≤ maxLen) (hbytes : (n + m) * bytes ≤ 140737488355328) (hbase : base ≤ w.heap.size)
    (h : ∀ A' cap' w', w'.ownsRow base e size (.slice A' (n + m) cap') (n + m) (xs ++ news) → w.grownBy w' (Value.slice A n cap).ownBlock → wpList P ops Q rest (a.put o.dst (.slice A' (n + m) cap')) w') : wpList P ops Q (o :: rest) a w := by
  cases X with
  | none =>
    have hm : m = 0 := by
      rcases Nat.eq_zero_or_pos m with h0 | h0
      · exact h0
      · obtain ⟨ad, e, -⟩ := hl.2 h0; cases e
    subst hm
    have hn : news = [] := List.eq_nil_of_length_eq_zero (by have := hl.1; simpa using this)
    subst hn
    have hle : n ≤ cap := by
      rcases hown.2 with ⟨hv, h0⟩ | ⟨g, cp, cur, hv, _, _, hc, _⟩
      · omega
      · injection hv with h1 h2 h3; omega
    have hr := run_append_nothing w t t o.type e i ht hi A n cap hle (.slice none 0 c) (Src.ofNil w ht c)
    have h2 := h A cap w (by rw [List.append_nil]; exact hown) (gb_refl w _)
    refine wpList_plain hgd fun _ hK => ?_
    unfold Oper.wp execOp
    simp only [ho, resolve, invoke, builtin, Sem.run_bind, Sem.run_pure, Result.andThen_ok, List.map_toArray, List.map_cons, List.map_nil, hs, hx, hr]
    exact hK _ _ h2
  | some ad =>
    by_cases hm : 0 < m
    · obtain ⟨ad', e1, hc⟩ := hl.2 hm
      injection e1 with e1
      subst e1
      refine wpList_append_two hgd s x t ho base e i z size bytes ht hi hz hsize hby hzs hsz _ n xs hs hown ad m c news hx hl.1 hc h1 h63 hbytes hbase fun v' w' h2 h3 _ => ?_
      obtain ⟨A', c', rfl, -⟩ := IsSlice.of_own h2
      exact h A' c' w' h2 h3
    · have hm0 : m = 0 := by omega
      subst hm0
      have hn : news = [] := List.eq_nil_of_length_eq_zero (by have := hl.1; simpa using this)
      subst hn
      refine wpList_append_two hgd s x t ho base e i z size bytes ht hi hz hsize hby hzs hsz _ n xs hs hown ad 0 c [] hx (by simp) (fun j u hu => by simp at hu) h1 h63 hbytes hbase fun v' w' h2 h3 _ => ?_
      obtain ⟨A', c', rfl, -⟩ := IsSlice.of_own h2
      exact h A' c' w' h2 h3
end Go.Proofs.YtgppfcaghjbjmaaDoor
end

/- Rules behind rules: rows of the call's own. -/
section
namespace Go.Proofs.YtgppfcaghjbjmaaDoor
open Go.RowKit Plain

theorem ruleV_length (x : Rule) : (ruleV x).length = 2 := rfl
theorem ruleV_oneCell (x : Rule) : ∀ u ∈ ruleV x, u.oneCell' = true := by intro u hu; simp [ruleV] at hu; rcases hu with rfl | rfl <;> rfl
theorem info_rule : (Tryd.prog.info? 30).map (fun i => (i.zero, i.size, i.bytes)) = some (some (.agg #[.bool false, .string ByteArray.empty]), 2, 24) := by kernel_rfl
theorem below_alloc1 (w : World) (o : Obj) : Below w.heap.size w (w.alloc o) := (Below.refl _ _).alloc (Nat.le_refl _) o
theorem empty_own1 (w : World) (t : TypeId) (size : Nat) : (w.alloc (.cells #[] t)).ownsRow w.heap.size t size (.slice (some ⟨w.heap.size, 0, none⟩) 0 0) 0 [] :=
  ⟨by simp, .inr ⟨w.heap.size, 0, #[], rfl, Nat.le_refl _, heap_alloc_new w _, Nat.le_refl _, by unfold maxLen; omega, by simp, by simp⟩⟩
theorem own_base1 {w : World} {b b' : Nat} {e : TypeId} {size n : Nat} {v : Value} {xs : List Value} (h : w.ownsRow b e size v n xs) (hb : b' ≤ b) : w.ownsRow b' e size v n xs := by
  refine ⟨h.1, ?_⟩
  rcases h.2 with h2 | ⟨g, cap, cur, rfl, hbg, hr⟩
  · exact .inl h2
  · exact .inr ⟨g, cap, cur, rfl, by omega, hr⟩
theorem RulesAt.of_own {w : World} {base : Nat} {e : TypeId} {A : Option Addr} {c n : Nat} {l : List Rule} (h : w.ownsRow base e 2 (.slice A n c) n (rowsE ruleV l)) (hn : n = l.length) : RulesAt w A l := by
  subst hn
  intro k hk
  have hk' : k < l.length := by simpa using hk
  obtain ⟨g, c', e, _, _⟩ := rowsE_some h (by omega)
  injection e with e1 _ e3
  subst e1 e3
  refine ⟨_, rfl, fun j u hu => ?_⟩
  have hj : j < 2 := by
    have := (List.getElem?_eq_some_iff.1 hu).1
    simpa [ruleV] using this
  have := rowsE_cell ruleV_length h hk' hj
  have e2 : (l.map ruleV)[k]'hk = ruleV l[k] := by simp
  rw [e2] at hu
  rw [← hu, ← this]
  congr 1
  unfold Addr.add
  split
  · rename_i q; rw [q]
  · simp
theorem rules_cells {w : World} {ad : Addr} {l : List Rule} (h : RulesAt w (some ad) l) : ∀ j u, (rowsE ruleV l)[j]? = some u → w.cell? (ad.add j) = some u := by
  intro j u hu
  have hj : j < (rowsE ruleV l).length := (List.getElem?_eq_some_iff.1 hu).1
  rw [rowsE_length ruleV_length] at hj
  have hk : j / 2 < l.length := by omega
  have hi : j % 2 < 2 := Nat.mod_lt _ (by omega)
  have e : j = j / 2 * 2 + j % 2 := by omega
  obtain ⟨ad', ha, hc⟩ := h (j / 2) (by simpa using hk)
  injection ha with ha
  subst ha
  have e1 : (l.map ruleV)[j / 2]'(by simpa using hk) = ruleV l[j / 2] := by simp
  rw [e1] at hc
  have h2 := rowsE_get ruleV_length l (j / 2) hk (j % 2) hi
  rw [← e, hu] at h2
  have := hc (j % 2) u h2.symm
  rwa [← e] at this
theorem RulesAt.reads {w : World} {A : Option Addr} {l : List Rule} (h : RulesAt w A l) : Reads w 2 A l.length (rowsE ruleV l) := by
  refine ⟨rowsE_length ruleV_length l, fun h0 => ?_⟩
  obtain ⟨ad, hA, -⟩ := h 0 (by simpa using h0)
  subst hA
  exact ⟨ad, rfl, rules_cells h⟩

theorem reads_row {w : World} {k : Nat} {a b : Value} {t : TypeId} {m : Nat × Nat} (h : w.heap[k]? = some (.cells #[a, b] t m)) : Reads w 2 (some ⟨k, 0, none⟩) 1 [a, b] :=
  ⟨rfl, fun _ => ⟨_, rfl, fun j u hu => by
    have e : (⟨k, 0, none⟩ : Addr).add j = ⟨k, j, none⟩ := by unfold Addr.add; split <;> simp_all
    rw [e]
    unfold World.cell?
    rw [h]
    match j, hu with
    | 0, hu => simpa using hu
    | 1, hu => simpa using hu
    | j + 2, hu => simp at hu⟩⟩

/-- append(s, x...), one operation in a region that draws its order. -/
theorem wp_append_slice {P : Program} {w : World} {o : Oper} {a : Act} {K : Act → World → Prop} {Q : Exit → Act → World → Prop} (s x : Operand) (t : TypeId)
    (ho : o.op = .call { callee := .builtin .append, args := #[s, x], argTypes := #[t, t] })
    (base : Nat) (e : TypeId) (i : TypeInfo) (z : Value) (size bytes : Nat) (ht : P.underlying t = some (.slice e)) (hi : P.info? e = some i) (hz : i.zero = some z)
    (hsize : i.size = size) (hby : i.bytes = bytes) (hzs : z.cells.size = size) (hsz : 0 < size)
    (A : Option Addr) (n cap : Nat) (xs : List Value) (hs : a.eval s = .slice A n cap) (hown : w.ownsRow base e size (.slice A n cap) n xs)
    (X : Option Addr) (m c : Nat) (news : List Value) (hx : a.eval x = .slice X m c) (hl : Reads w size X m news) (h1 : ∀ u ∈ news, u.oneCell' = true)
    (h63 : n + m ≤ maxLen) (hbytes : (n + m) * bytes ≤ 140737488355328) (hbase : base ≤ w.heap.size)
    (h : ∀ A' cap' w', w'.ownsRow base e size (.slice A' (n + m) cap') (n + m) (xs ++ news) → w.grownBy w' (Value.slice A n cap).ownBlock → K (a.put o.dst (.slice A' (n + m) cap')) w') : o.wp P a w K Q := by
  have hle : n ≤ cap := by
    rcases hown.2 with ⟨hv, h0⟩ | ⟨g, cp, cur, hv, _, _, hc, _⟩
    · omega
    · injection hv with h1 h2 h3; omega
  by_cases hm : 0 < m
  · obtain ⟨ad, rfl, hc⟩ := hl.2 hm
    exact wp_append_lies w s x t ho base e i z size bytes ht hi hz hsize hby hzs hsz _ n xs hs hown ad m c news hx hl.1 hc h1 hm h63 hbytes hbase _ rfl fun g cap' w' h2 h3 _ _ => h _ _ _ h2 h3
  · obtain rfl : m = 0 := by omega
    have hn : news = [] := List.eq_nil_of_length_eq_zero (by have := hl.1; simpa using this)
    subst hn
    have h2 := h A cap w (by rw [List.append_nil]; exact hown) (gb_refl w _)
    have hsrc : Src P i.size t (.slice X 0 c) 0 [] w := by
      cases X with
      | none => exact Src.ofNil w ht c
      | some ad => exact Src.ofSlice w ht ad 0 c [] (by simp) (fun j u hu => by simp at hu) (fun u hu => by cases hu)
    have hr := run_append_nothing w t t o.type e i ht hi A n cap hle (.slice X 0 c) hsrc
    unfold Oper.wp execOp
    simp only [ho, resolve, invoke, builtin, Sem.run_bind, Sem.run_pure, Result.andThen_ok, List.map_toArray, List.map_cons, List.map_nil, hs, hx, hr]
    exact h2

/-! what rules ignore, once more -/
namespace Plain
def anyUp (g : List UInt8 → Bool) (s : List UInt8) : Bool := pathOK s && ignN g (parts s)
theorem anyUp_step (g : List UInt8 → Bool) {s : List UInt8} (h : pathOK s = true) : anyUp g s = (g s || (if parentM s = [] then false else anyUp g (parentM s))) := by
  unfold anyUp
  rw [h, Bool.true_and, ignN_step _ (parts_ne s), join_parts]
  congr 1
  by_cases e : parentM s = []
  · rw [if_pos e, (parent_nil h).1 e]; rfl
  · rw [if_neg e, parent_ok h e, Bool.true_and, parent_parts h (fun c => e ((parent_nil h).2 c))]
theorem ignG_twice (l : List Rule) (s : List UInt8) : ignG (l ++ l) s = ignG l s := by
  unfold ignG
  congr 2
  funext x
  exact lastG_twice l x
theorem ignN_congr {g h : List UInt8 → Bool} : ∀ (n : Nat) (l : List (List UInt8)), l.length ≤ n → (∀ p, p <+: l → p ≠ [] → g (joinS p) = h (joinS p)) → ignN g l = ignN h l := by
  intro n l hl hgh
  rw [Bool.eq_iff_iff, ignN_iff g n l hl, ignN_iff h n l hl]
  constructor
  · rintro ⟨p, h1, h2, h3⟩; exact ⟨p, h1, h2, by rw [← hgh p h1 h2]; exact h3⟩
  · rintro ⟨p, h1, h2, h3⟩; exact ⟨p, h1, h2, by rw [hgh p h1 h2]; exact h3⟩
theorem ignG_keeps {l : List Rule} {r : Rule} {s : List UInt8} (h : anyUp (matchG r.pat) s = false) : ignG (l ++ [r]) s = ignG l s := by
  unfold ignG
  cases hok : pathOK s with
  | false => rfl
  | true =>
    unfold anyUp at h
    rw [hok, Bool.true_and] at h
    rw [Bool.true_and, Bool.true_and]
    refine ignN_congr _ _ (Nat.le_refl _) fun p hp hne => ?_
    rw [lastG_snoc, if_neg]
    intro hm
    have := (ignN_iff (matchG r.pat) _ (parts s) (Nat.le_refl _)).2 ⟨p, hp, hne, hm⟩
    rw [this] at h; cases h
end Plain
end Go.Proofs.YtgppfcaghjbjmaaDoor
end
