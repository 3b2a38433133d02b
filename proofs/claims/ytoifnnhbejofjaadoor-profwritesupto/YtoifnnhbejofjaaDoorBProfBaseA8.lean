/- Texts joined: RangeLaw, Path, NameFns, Prof4, Prof5. -/
import Derived.RangeFuncKeeps
import Derived.RangeFuncCalls
import Derived.RangeFuncLeaves
import Derived.Test.YtoifnnhbejofjaaDoorBProfBaseA1
import Derived.Test.YtoifnnhbejofjaaDoorBProfBaseA7
import Derived.Lib.LastIndexByte
set_option linter.unusedSimpArgs false
set_option linter.unusedVariables false

/- A range over a function whose iterator keeps cells of its own: how the statement is walked at the wide fence. -/
section
namespace Go.Proofs.YtoifnnhbejofjaaDoor
open Go.RowKit

/-- How a round's body may be left. -/
def ownRound {α : Type} (B : Nat) (I Ix : List α → World → Prop) (xs : List α) (W : World) : Exit → Act → World → Prop
  | .normal, _, W' => (∀ k, B ≤ k → k < W.heap.size → W'.heap[k]? = W.heap[k]?) ∧ Below B W W' ∧ I xs W'
  | .ret, _, W' => (∀ k, B ≤ k → k < W.heap.size → W'.heap[k]? = W.heap[k]?) ∧ Ix xs W'
  | _, _, _ => False

theorem below_put {B : Nat} {a w : World} (h : Below B a w) {l : Nat} (hl : B ≤ l) (o : Obj) : Below B a (w.putObj l o) :=
  ⟨h.os, h.tape, h.output, by rw [World.putObj_size]; exact h.size, fun k hk => (World.putObj_heap_other (by omega)).trans (h.block k hk)⟩

theorem rangeFunc_own {α : Type} {n : Nat} {P : Program} {g : Operand} {ps : Array Tmp} {assign body : Code} {Q : Exit → Act → World → Prop} {a : Act} {w : World}
    {gf : Nat} {lb : Array Value} (hg : a.eval g = .func (.func gf) #[] lb) (eg : ∀ args w, (callFunc gf args).run P w = .ok (.enter gf args) w)
    {encs : α → Array Value} (hps : ∀ x, (encs x).size = ps.size) (all : List α) (I Ix : List α → World → Prop) (bs : Nat) (hbs : bs < w.heap.size)
    (hseq : ∀ (l : Nat) (J Jx : List α → World → Prop) (W : World), (∀ k, k < w.heap.size → W.heap[k]? = w.heap[k]?) → (∀ pre W v, J pre W → J pre (W.setCell ⟨bs, 0, none⟩ v)) →
      (∀ pre x W1, J pre W1 → YieldAt Fence.wide (n - 1 - 1) P l (encs x) W1 fun e W' =>
        (e = .returned (.bool true) ∧ J (pre ++ [x]) W' ∧ Below w.heap.size W1 W') ∨ (e = .returned (.bool false) ∧ Jx (pre ++ [x]) W')) → J [] W →
      CallsIn Fence.wide (n - 1) P gf (#[.func (.yield l) #[] #[]] ++ lb) W fun e W' => (∃ v, e = .returned v) ∧ (J all W' ∨ ∃ pre, pre <+: all ∧ Jx pre W'))
    (hIst : ∀ pre W v, I pre W → I pre (W.setCell ⟨bs, 0, none⟩ v))
    (hIput : ∀ pre W l o, w.heap.size ≤ l → I pre W → I pre (W.putObj l o)) (hXput : ∀ pre W l o, w.heap.size ≤ l → Ix pre W → Ix pre (W.putObj l o))
    (h0 : ∀ o1 o2, I [] ((w.alloc o1).alloc o2)) (a₁ : α → Act)
    (hassign : ∀ (l : Nat) (x : α) (W : World) (K : Act → World → Prop), K (a₁ x) W →
      assign.wpIn (Fence.wide.inRound l) (n - 1 - 1) P (Exit.then K (fun _ _ _ => False)) { tmps := (ps.zip (encs x)).foldl (fun t (p, v) => t.setIfInBounds p v) a.tmps, defers := [] } W)
    (hbody : ∀ (l : Nat) (pre : List α) (x : α) (W : World), I pre W → w.heap.size < W.heap.size → body.wpIn (Fence.wide.inRound l) (n - 1 - 1) P (ownRound w.heap.size I Ix (pre ++ [x]) W) (a₁ x) W)
    (hdone : ∀ (W : World), I all W → W.heap[w.heap.size]? = some (.deferred (some [])) → Q .normal { a with defers := { target := .collected w.heap.size, args := #[] } :: a.defers } W)
    (hstop : ∀ (pre : List α) (W : World), pre <+: all → Ix pre W → W.heap[w.heap.size]? = some (.deferred (some [])) → Code.ret.wpIn Fence.wide n P Q { a with defers := { target := .collected w.heap.size, args := #[] } :: a.defers } W) :
    (Code.rangeFunc g ps assign body).wpIn Fence.wide n P Q a w := by
  refine wpIn_rangeFunc ?_
  intro fn hfn
  obtain ⟨rec, hrec⟩ : ∃ rec : LoopState → Option Code → Loop, rec = fun st pe => { state := st, pending := pe, fn, tmps := a.tmps, params := ps, assign, body, defers := w.heap.size } := ⟨_, rfl⟩
  obtain ⟨W1, hW1⟩ : ∃ W1, (w.alloc (.deferred (some []))).alloc (.loop (rec .ready none)) = W1 := ⟨_, rfl⟩
  have hL1 : W1.heap[w.heap.size + 1]? = some (.loop (rec .ready none)) := by
    rw [← hW1]; have := World.alloc_heap_new (w.alloc (.deferred (some []))) (.loop (rec .ready none)); rwa [World.size_alloc] at this
  have hK1 : W1.heap[w.heap.size]? = some (.deferred (some [])) := by
    rw [← hW1]; exact (Below.heap_alloc _ _ _ (by simp)).trans (World.alloc_heap_new w _)
  have hold : ∀ k, k < w.heap.size → W1.heap[k]? = w.heap[k]? := fun k hk => by
    rw [← hW1]; exact (Below.heap_alloc _ _ _ (by simp; omega)).trans (Below.heap_alloc _ _ _ hk)
  refine ⟨w.heap.size + 1, [{ target := .collected w.heap.size, args := #[] }], W1, { target := .fn (.func gf) lb, args := #[.func (.yield (w.heap.size + 1)) #[] #[]] }, W1, gf,
    #[.func (.yield (w.heap.size + 1)) #[] #[]] ++ lb, W1, ?_, ?_, ?_, ?_, fun h => (by cases h), ?_⟩
  · rw [← hW1, hrec]; exact run_enterLoop_outer _ _ _ _ _
  · simp only [resolve, hg]
    simp [go_sem]
  · intro f' hf'; trivial
  · simp [invoke, go_sem, eg]
  · have hown : ∀ (pre : List α) (W : World) (v : Value), (I pre W ∧ W.heap[w.heap.size + 1]? = some (.loop (rec .ready none)) ∧ W.heap[w.heap.size]? = some (.deferred (some []))) →
        (I pre (W.setCell ⟨bs, 0, none⟩ v) ∧ (W.setCell ⟨bs, 0, none⟩ v).heap[w.heap.size + 1]? = some (.loop (rec .ready none)) ∧ (W.setCell ⟨bs, 0, none⟩ v).heap[w.heap.size]? = some (.deferred (some []))) :=
      fun pre W v ⟨h1, h2, h3⟩ => ⟨hIst _ _ _ h1, (Below.heap_setCell _ _ _ _ (by show w.heap.size + 1 ≠ bs; omega)).trans h2, (Below.heap_setCell _ _ _ _ (by show w.heap.size ≠ bs; omega)).trans h3⟩
    refine (hseq (w.heap.size + 1) (fun pre W => I pre W ∧ W.heap[w.heap.size + 1]? = some (.loop (rec .ready none)) ∧ W.heap[w.heap.size]? = some (.deferred (some []))) (fun pre W => Ix pre W ∧ W.heap[w.heap.size + 1]? = some (.loop (rec .done (some .ret))) ∧ W.heap[w.heap.size]? = some (.deferred (some []))) W1 hold hown ?_ (by have h00 := h0 (.deferred (some [])) (.loop (rec .ready none)); rw [hW1] at h00; exact ⟨h00, hL1, hK1⟩)).mono ?_
    · rintro pre x W ⟨hi, hl, hk⟩
      have hlt : w.heap.size + 1 < W.heap.size := (Array.getElem?_eq_some_iff.1 hl).1
      have hy := run_yield (P := P) (args := encs x) hl (by rw [hrec]; exact hps x)
      rw [hrec] at hy
      refine ⟨fn, _, assign, body, hy, roundIn_of_wpIn hfn (hassign _ x W _ ⟨_, run_beginRound hl (by rw [hrec]), ?_⟩)⟩
      have hl2 : (W.putObj (w.heap.size + 1) (.loop { rec .ready none with state := .busy })).heap[w.heap.size + 1]? = some (.loop { rec .ready none with state := .busy }) := World.putObj_heap_same hlt
      have hk2 : (W.putObj (w.heap.size + 1) (.loop { rec .ready none with state := .busy })).heap[w.heap.size]? = some (.deferred (some [])) := (World.putObj_heap_other (by omega)).trans hk
      have hs2 : (W.putObj (w.heap.size + 1) (.loop { rec .ready none with state := .busy })).heap.size = W.heap.size := World.putObj_size
      refine wpIn_mono (hbody _ pre x _ (hIput _ _ _ _ (by omega) hi) (by rw [hs2]; omega)) ?_
      have fin : ∀ (jump : Option Code) (W3 : World), (∀ k, w.heap.size ≤ k → k < (W.putObj (w.heap.size + 1) (.loop { rec .ready none with state := .busy })).heap.size → W3.heap[k]? = (W.putObj (w.heap.size + 1) (.loop { rec .ready none with state := .busy })).heap[k]?) →
          (Instr.endRound (w.heap.size + 1) jump).run P W3 = .ok (.bool jump.isNone) (W3.putObj (w.heap.size + 1) (.loop (rec (if jump.isNone then .ready else .done) jump))) ∧
          (W3.putObj (w.heap.size + 1) (.loop (rec (if jump.isNone then .ready else .done) jump))).heap[w.heap.size + 1]? = some (.loop (rec (if jump.isNone then .ready else .done) jump)) ∧
          (W3.putObj (w.heap.size + 1) (.loop (rec (if jump.isNone then .ready else .done) jump))).heap[w.heap.size]? = some (.deferred (some [])) := fun jump W3 hk3 => by
        have hl3 := (hk3 (w.heap.size + 1) (by omega) (by rw [hs2]; omega)).trans hl2
        have := run_endRound (P := P) jump hl3
        rw [hrec] at this ⊢
        exact ⟨this, World.putObj_heap_same (Array.getElem?_eq_some_iff.1 hl3).1, (World.putObj_heap_other (by omega)).trans ((hk3 w.heap.size (Nat.le_refl _) (by rw [hs2]; omega)).trans hk2)⟩
      rintro e a3 W3 hp
      cases e with
      | normal =>
        obtain ⟨hk3, hb3, hi3⟩ := hp
        obtain ⟨hr, hl4, hk4⟩ := fin none W3 hk3
        exact ⟨_, _, hr, .inl ⟨rfl, ⟨hIput _ _ _ _ (by omega) hi3, hl4, hk4⟩, below_put ((below_put (Below.refl _ W) (by omega) _).trans hb3) (by omega) _⟩⟩
      | ret =>
        obtain ⟨hk3, hi3⟩ := hp
        obtain ⟨hr, hl4, hk4⟩ := fin (some .ret) W3 hk3
        exact ⟨_, _, hr, .inr ⟨rfl, hXput _ _ _ _ (by omega) hi3, hl4, hk4⟩⟩
      | exit id => exact hp.elim
      | goto t => exact hp.elim
      | panic ch => exact hp.elim
      | outgrown => exact hp.elim
    · rintro e W2 ⟨⟨v, rfl⟩, (⟨hi, hl, hk⟩ | ⟨pre, hpre, hi, hl, hk⟩)⟩
      · exact ⟨none, _, by have := run_endLoop (P := P) hl (by rw [hrec]; simp); rw [hrec] at this; exact this, hdone _ (hIput _ _ _ _ (by omega) hi) ((World.putObj_heap_other (by omega)).trans hk)⟩
      · exact ⟨some .ret, _, by have := run_endLoop (P := P) hl (by rw [hrec]; simp); rw [hrec] at this; exact this, hstop pre _ hpre (hXput _ _ _ _ (by omega) hi) ((World.putObj_heap_other (by omega)).trans hk)⟩
end Go.Proofs.YtoifnnhbejofjaaDoor
end

/- name.Path. -/
section
namespace Go.Proofs.YtoifnnhbejofjaaDoor
open Go.RowKit Go.Shelf Plain
attribute [local go_sem] Oper.semAt_some

theorem pathOK_long {s : List UInt8} (h : 400 < s.length) : pathOK s = false := by unfold pathOK; rw [decide_eq_false (by omega)]; rfl
theorem pathOK_deep {s : List UInt8} (h : 16 ≤ s.count 47) : pathOK s = false := by unfold pathOK; rw [parts_length, decide_eq_false (show ¬ s.count 47 + 1 ≤ 16 by omega)]; simp
theorem pathOK_all {s : List UInt8} (h : s.length ≤ 400) (h2 : s.count 47 < 16) : pathOK s = (parts s).all nameOK := by
  unfold pathOK; rw [parts_length, decide_eq_true h, decide_eq_true (by omega)]; simp

theorem cell_new0 (W : World) (v : Value) (t : TypeId) : (W.alloc (.cells #[v] t)).cell? ⟨W.heap.size, 0, none⟩ = some v := by simp [go_sem]
theorem frozen_new0 (W : World) (v : Value) (t : TypeId) : (W.alloc (.cells #[v] t)).frozen? ⟨W.heap.size, 0, none⟩ = false := by simp [go_sem]
theorem results_cell_one {P : Program} {fn : Func} {p : Tmp} {ty : TypeId} (h : fn.results = #[.cell p ty]) (tmps : Array Value) (w : World) (a : Addr) (v : Value) (hp : tmps.getD p undef = .pointer (some a)) (hc : w.cell? a = some v)
    (hagg : ∀ w, (isAgg ty).run P w = .ok false w) : (results fn tmps).run P w = .ok v w := by
  have hp' : tmps[p]?.getD undef = .pointer (some a) := by simpa using hp
  simp [results, h, hp', asAddr, loadVar, hagg, hc, go_sem]

/-- What the loop keeps. -/
def PathI (w : World) (pre : List (List UInt8)) (W : World) : Prop :=
  (∀ x ∈ pre, nameOK x = true) ∧ Below w.heap.size w W ∧ W.cell? ⟨w.heap.size, 0, none⟩ = some (.bool false) ∧ W.frozen? ⟨w.heap.size, 0, none⟩ = false
def PathX (w : World) (pre : List (List UInt8)) (W : World) : Prop :=
  (∃ x ∈ pre, nameOK x = false) ∧ Below w.heap.size w W ∧ W.cell? ⟨w.heap.size, 0, none⟩ = some (.bool false)

end Go.Proofs.YtoifnnhbejofjaaDoor
end

/- name.Split, Parent, Base. -/
section
namespace Go.Proofs.YtoifnnhbejofjaaDoor
open Go.RowKit Plain

/-- What a call may lean on. -/
structure Laid (w : World) (m : Int) : Prop where
  tabs : Tabs w
  max : w.cell? ⟨0, 0, none⟩ = some (.int .i64 m)
theorem Laid.below {w w' : World} {m : Int} (h : Laid w m) (hb : Below w.heap.size w w') : Laid w' m :=
  ⟨Utf8Tabs_below h.tabs hb, (hb.cell (p := ⟨0, 0, none⟩) (World.block_lt_of_cell? _ _ h.max)).trans h.max⟩

def splitM (s : List UInt8) : List (List UInt8) := if pathOK s then parts s else []


theorem lib_none {s : List UInt8} (h : 47 ∉ s) : Lib.lastIndexByte ⟨s.toArray⟩ 47 = -1 := by
  rcases Lib.lastIndexByte_spec ⟨s.toArray⟩ 47 with ⟨e, _⟩ | ⟨i, hi, _, hc, _⟩
  · exact e
  · exfalso
    have hi' : i < s.length := by simpa [ByteArray.size] using hi
    have : (s.toArray[i]!) = s[i] := by simp [hi']
    simp only [this] at hc
    exact h (by have e : s[i] = 47 := UInt8.toNat.inj (by simpa using Int.ofNat.inj hc); rw [← e]; exact List.getElem_mem hi')
theorem lib_last (p q : List UInt8) (h : 47 ∉ q) : Lib.lastIndexByte ⟨(p ++ 47 :: q).toArray⟩ 47 = p.length := by
  have hget : ∀ j, j < (p ++ 47 :: q).length → ((p ++ 47 :: q).toArray[j]!) = (p ++ 47 :: q).getD j 0 := fun j hj => by simp [List.getD]; rfl
  have hsz : (ByteArray.mk (p ++ 47 :: q).toArray).size = (p ++ 47 :: q).length := by simp [ByteArray.size]
  have hgp : (p ++ 47 :: q).getD p.length 0 = 47 := by simp [List.getD]
  have hpl : p.length < (p ++ 47 :: q).length := by simp
  rcases Lib.lastIndexByte_spec ⟨(p ++ 47 :: q).toArray⟩ 47 with ⟨_, hn⟩ | ⟨i, hi, e, hc, hn⟩
  · exfalso
    have := hn p.length (by rw [hsz]; exact hpl)
    simp only [hget _ hpl, hgp] at this
    exact this rfl
  · rw [e]
    rw [hsz] at hi hn
    simp only [hget _ hi] at hc
    rcases Nat.lt_trichotomy i p.length with hlt | heq | hgt
    · exfalso
      have := hn p.length hlt hpl
      simp only [hget _ hpl, hgp] at this
      exact this rfl
    · rw [heq]
    · exfalso
      have e2 : (p ++ 47 :: q).getD i 0 = 47 := UInt8.toNat.inj (by simpa using Int.ofNat.inj hc)
      obtain ⟨k, rfl⟩ : ∃ k, i = p.length + 1 + k := ⟨i - p.length - 1, by omega⟩
      have e3 : (p ++ 47 :: q).getD (p.length + 1 + k) 0 = q.getD k 0 := by
        simp only [List.getD]
        rw [List.getElem?_append_right (by omega), show p.length + 1 + k - p.length = k + 1 by omega]; rfl
      rw [e3] at e2
      have hk : k < q.length := by simp at hi; omega
      exact h (by rw [← e2]; simp [List.getD, hk])



theorem HasPrefix_any (s p : List UInt8) (w : World) :
    Calls Tryd.prog 77 #[.string ⟨s.toArray⟩, .string ⟨p.toArray⟩] w (Ret w (.bool (p.isPrefixOf s))) :=
  (Tryd.strings_HasPrefix ⟨s.toArray⟩ ⟨p.toArray⟩ w).mono fun _ _ ⟨he, hw⟩ => ⟨he, hw ▸ Below.refl _ _⟩
end Go.Proofs.YtoifnnhbejofjaaDoor
end

/- prof: a text, line by line. -/
section
set_option linter.unusedVariables false
namespace Go.Proofs.YtoifnnhbejofjaaDoor
open Go.RowKit Plain

/-- What a call may lean on: the tables too. -/
structure LaidP (w : World) (m : Int) : Prop where
  laid : Laid w m
  pow : Lib.TabIs Tryd.prog w "internal/strconv.uint64pow10" .u64 Lib.pow10Tab
theorem LaidP.below {w w' : World} {m : Int} (h : LaidP w m) (hb : Below w.heap.size w w') : LaidP w' m := by
  refine ⟨h.laid.below hb, ?_⟩
  have hp := h.pow
  unfold Lib.TabIs World.var? at *
  cases hg : Tryd.prog.globalNamed "internal/strconv.uint64pow10" with
  | none => rw [hg] at hp; cases hp
  | some g =>
    rw [hg] at hp
    simp only [Option.bind_some] at hp ⊢
    cases hh : w.heap[g]? with
    | none => rw [hh] at hp; cases hp
    | some o =>
      rw [hb.block g (Array.getElem?_eq_some_iff.1 hh).1]
      exact hp
theorem below_more (w : World) (k : Nat) (os : Array Obj) : Below w.heap.size w (Sort.grow (w.drewN k) os) :=
  ⟨rfl, rfl, rfl, by show w.heap.size ≤ (w.heap ++ os).size; simp, fun i hi => by show (w.heap ++ os)[i]? = w.heap[i]?; exact Array.getElem?_append_left hi⟩
theorem Itoa_any (k : Nat) (m : Int) (w : World) (hk : k ≤ 9223372036854775807) (hL : LaidP w m) : Calls Tryd.prog 32 #[.int .i64 (k : Int)] w (Ret w (.string ⟨(decL k).toArray⟩)) :=
  (Tryd.strconv_Itoa (k : Int) (by omega) (by omega) w hL.pow).mono fun e w' ⟨he, q, os, hw⟩ => ⟨by
    rw [he]
    have : Lib.itoa (k : Int) = decL k := by unfold Lib.itoa decL; rw [if_neg (by omega)]; rfl
    rw [this], hw ▸ below_more w q os⟩

/-- What holds from the reader's beginning on. -/
structure EnvP (b : Nat) (T : List Txt) (A : Option Addr) (m : Int) (w : World) : Prop where
  laid : ∀ W, Below b w W → LaidP W m
  rows : ∀ W, Below b w W → IsRows W 2 A (T.map txtV)
theorem EnvP.on {b : Nat} {T : List Txt} {A : Option Addr} {m : Int} {w w' : World} (h : EnvP b T A m w) (hb : Below b w w') : EnvP b T A m w' :=
  ⟨fun W hW => h.laid W (hb.trans hW), fun W hW => h.rows W (hb.trans hW)⟩

/-- strings.Split: where its list lies -/
theorem split_at (s : List UInt8) (m : Int) (w : World) (hs : s.length < 4294967281) (hm : w.cell? ⟨0, 0, none⟩ = some (.int .i64 m)) :
    Calls Tryd.prog 30 #[.string ⟨s.toArray⟩, .string ⟨#[10]⟩] w fun e w' => e = .returned (.slice (some ⟨w.heap.size, 0, none⟩) (cutAt 10 [] s).length (cutAt 10 [] s).length) ∧ w' = w.alloc (.cells (strs (cutAt 10 [] s)).toArray 9) := by
  have hg := genSplit_cut s 10 0 m w (by omega) hs hm
  rw [if_neg (by decide)] at hg
  generalize cutAt 10 [] s = l at *
  have HG := Lib.hid hg
  clear hg hm
  go_enter Tryd.func30, Tryd.ntmps30
  go_wp2_with (fail)
  refine HG.out.mono ?_
  rintro e w1 ⟨rfl, rfl⟩
  go_wp2_with (fail)
  go_ret
  exact ⟨rfl, rfl⟩
theorem cons1_piece {x : UInt8} {l : List (List UInt8)} {m : Nat} (h : ∀ y ∈ l, y.length ≤ m) : ∀ y ∈ cons1 x l, y.length ≤ m + 1 := by
  cases l with
  | nil => intro y hy; simp only [cons1, List.mem_singleton] at hy; subst hy; simp
  | cons p r =>
    intro y hy
    simp only [cons1, List.mem_cons] at hy
    rcases hy with rfl | hy
    · have := h p (by simp); simp; omega
    · have := h y (by simp [hy]); omega
theorem piece_le (c : UInt8) : ∀ s : List UInt8, ∀ y ∈ cutAt c [] s, y.length ≤ s.length
  | [] => by intro y hy; simp only [cutAt, List.mem_singleton] at hy; subst hy; simp
  | x :: s => by
    intro y hy
    rw [cutAt_cons] at hy
    have ih := piece_le c s
    split at hy
    · rcases List.mem_cons.1 hy with rfl | hy
      · simp
      · have := ih y hy; simp; omega
    · have := cons1_piece (x := x) ih y hy; simpa using this
theorem reads_row {w : World} {g : Nat} {l : List (List UInt8)} {t : TypeId} {fr : Nat × Nat} (h : w.heap[g]? = some (.cells (strs l).toArray t fr)) : Reads w 1 (some ⟨g, 0, none⟩) l.length (strs l) :=
  ⟨by rw [strs_length]; omega, fun _ => ⟨_, rfl, fun j u hj => by
    rw [show (⟨g, 0, none⟩ : Addr).add j = ⟨g, j, none⟩ by unfold Addr.add; split <;> simp_all, cell_of_row _ _ _ _ _ _ h]
    simpa using hj⟩⟩
def Short (p : PF) : Prop := p.ign.length ≤ 100 ∧ p.bak.length ≤ 100 ∧ p.mrg.length ≤ 100
def ReadOut (S : Nat → Prop) (b base : Nat) (A : Option Addr) (n c : Nat) (inside : List (List UInt8)) (w : World) (r : Res) (e : Ending) (w' : World) : Prop :=
  ∃ inside' p' wh' vl vi vb vm, Rd S w b base A n c inside' p' wh' vl vi vb vm w' ∧ match r with
    | .ok q => e = .returned (.int .i64 0) ∧ inside' = inside ∧ p' = q ∧ Short q
    | .error x => e = .returned (.int .i64 (x.2 : Nat)) ∧ wh' = x.1

set_option maxHeartbeats 8000000 in
set_option maxRecDepth 100000 in
theorem read_any (T : List Txt) (A : Option Addr) (c b base : Nat) (m : Int) (hl : T.length ≤ 9223372036854775807) (hx : ∀ x ∈ T, x.text.length ≤ 9223372036854775807) : ∀ (d : Nat) (inside : List (List UInt8)) (name : List UInt8) (p : PF) (wh : Txt) (S : Nat → Prop) (vl vi vb vm : Value) (w : World),
    inside.length + d = 8 → 1 ≤ d → findT T name ≠ none → Short p → RdAt S b base A T.length c inside p wh vl vi vb vm w → EnvP b T A m w → base ≤ w.heap.size →
    Calls Tryd.prog 13 #[.pointer (some ⟨b, 0, none⟩), .string ⟨name.toArray⟩] w (ReadOut S b base A T.length c inside w (readP T d inside name p)) := by
  intro d
  induction d with
  | zero => intro inside name p wh S vl vi vb vm w _ h1; omega
  | succ d ih =>
    intro inside name p wh S vl vi vb vm w hd _ hfn hsh h hE hbw
    have HIH := Lib.hid ih
    clear ih
    obtain ⟨i, hfi⟩ : ∃ i, findT T name = some i := by cases hf : findT T name with | none => exact absurd hf hfn | some i => exact ⟨i, rfl⟩
    have hil := findT_lt hfi
    have HF := Lib.hid (fun W (hW : Below w.heap.size w W) => find_any T A c b name W (hE.rows W (hW.mono (Nat.le_of_lt h.hb))) hl ((h.below hW).cells.2.1))
    have hfI : findI T name = (i : Int) := by unfold findI; rw [hfi]
    rw [hfI] at HF
    have hrd : readP T (d + 1) inside name p = if 65536 < (T.getD i ⟨[], []⟩).text.length then .error (⟨name, [48]⟩, 1) else linesP (readP T d (inside ++ [name])) T (inside ++ [name]) name 0 (cutAt 10 [] (T.getD i ⟨[], []⟩).text) p := by
      rw [readP, hfi]
    obtain ⟨r, hr⟩ : ∃ r, readP T (d + 1) inside name p = r := ⟨_, rfl⟩
    rw [hr] at hrd ⊢
    obtain ⟨ad, rfl, t0, t1⟩ := txt_cells (hE.rows w (Below.refl _ _)) hil
    have hxt : (T.getD i ⟨[], []⟩).text.length ≤ 9223372036854775807 := by
      rw [List.getD_eq_getElem?_getD, List.getElem?_eq_getElem hil, Option.getD_some]; exact hx _ (List.getElem_mem hil)
    generalize (T.getD i ⟨[], []⟩).text = txt at *
    obtain ⟨c0, c1, -, -, -, -, -⟩ := h.cells
    have i0 : (0 : Int) ≤ (i : Int) := by omega
    have i1 : (i : Int) < (T.length : Int) := by omega
    have hblt := h.hb
    have HRD := Lib.hid hrd
    have HR := Lib.hid h
    have HE := Lib.hid hE
    clear hrd hr hfI hfi hfn h hE
    go_enter Tryd.func13, Tryd.ntmps13
    go_wp2_with (fail)
    refine wp_region_below (by kernel_rfl) (by kernel_rfl) ?_
    repeat (first | (go_big_quiet_want; refine quiet_load_cell 22 _ rfl _ rfl _ _ c1 Tryd.underlying22 rfl ?_; simp only [Act.put, List.setIfInBounds_toArray, List.set_cons_succ, List.set_cons_zero]; go_big_quiet_on) | (go_big_quiet_want; refine quiet_load_cell 9 _ rfl _ rfl _ _ t1 Tryd.underlying9 rfl ?_; simp only [Act.put, List.setIfInBounds_toArray, List.set_cons_succ, List.set_cons_zero]; go_big_quiet_on) | go_big_quiet_step ((intro hW; go_at_call 12; exact Ret.quiet hW (HF.out _ hW))))
    refine wpQuiet_nil ?_
    intro W1 hW1
    have HR1 := Lib.hid (HR.out.start.below hW1)
    have f9 := (HR1.out.at_.cells).2.2.2.2.2.1
    have f10 := (HR1.out.at_.cells).2.2.2.2.2.2
    have g9 := HR1.out.at_.soft 9
    have g10 := HR1.out.at_.soft 10
    have hbl1 := HR1.out.at_.hb
    obtain ⟨W2, hW2⟩ : ∃ W2, (W1.setCell ⟨b, 9, none⟩ (.string ⟨name.toArray⟩)).setCell ⟨b, 10, none⟩ (.string ⟨#[48]⟩) = W2 := ⟨_, rfl⟩
    have HW2 := Lib.hid hW2
    have HR2 := Lib.hid (HR1.out.step (HR1.out.at_.place ⟨name, [48]⟩ W2 hW2.symm))
    clear t0 t1 c0 c1 HF hW2 HR
    go_upto_region 3 with (fail)
    rw [HW2.out]
    clear f9 f10 g9 g10 HR1 hW1 HW2 hbl1
    by_cases hlong : 65536 < txt.length
    · have hr1 := HRD.out.trans (if_pos hlong)
      have HRR := Lib.hid hr1
      have g1 : (65536 : Int) < (txt.length : Int) := by omega
      clear hr1 HRD hlong
      go_wp2_with (fail)
      go_ret
      exact ⟨_, _, _, _, _, _, _, HR2.out, by rw [HRR.out]; exact ⟨rfl, rfl⟩⟩
    · have hr1 := HRD.out.trans (if_neg hlong)
      have HRR := Lib.hid hr1
      have g1 : ¬ (65536 : Int) < (txt.length : Int) := by omega
      have hlen : txt.length ≤ 65536 := by omega
      clear hr1 HRD hlong
      obtain ⟨it0, hi1, hy0, hy1, hy2⟩ := info_parts info_string
      have HIN := Lib.hid hi1
      have HO := Lib.hid HR2.out.at_.list
      obtain ⟨B2, d2, hvl, -, -, -⟩ := IsSlice.of_own HR2.out.at_.list
      subst hvl
      have c0 := HR2.out.at_.cells.1
      have hb2 := HR2.out.at_.hb
      have hbw2 : base ≤ W2.heap.size := Nat.le_trans hbw HR2.out.only.size
      clear hi1
      go_wp2_with (at_builtin; refine wpList_append_two rfl _ _ 45 rfl base 9 it0 _ 1 16 Tryd.underlying45 HIN.out hy0 hy1 hy2 rfl (by decide) _ _ _ rfl (HO.out.alloc _) ⟨W2.heap.size, 0, none⟩ 1 1 [.string ⟨name.toArray⟩] rfl rfl (laid_one _ _ _) (one_oneCell rfl) ?c3 ?c4 ?c5 ?_)
      case c3 => unfold maxLen; omega
      case c4 => omega
      case c5 => first | omega | (simp; omega)
      intro v1 wf hown hgr hli
      obtain ⟨B3, d3, rfl, -, -, -⟩ := IsSlice.of_own hown
      have hal := (Below.refl W2.heap.size W2).alloc (Nat.le_refl _) (.cells #[.string ⟨name.toArray⟩] 9)
      have h1 := HR2.out.below hal
      have f1 := (h1.at_.still h1.at_.list hgr 0).trans h1.at_.cells.1
      have f2 := h1.at_.free h1.at_.list hgr 0
      obtain ⟨W3, hW3⟩ : ∃ W3, wf.setCell ⟨b, 0, none⟩ (.slice B3 (inside.length + 1) d3) = W3 := ⟨_, rfl⟩
      have HW3 := Lib.hid hW3
      have HR3 := Lib.hid (h1.step (h1.at_.addList (w' := W3) name hown hgr hli hW3.symm))
      clear hal h1 hown hgr hli c0 HO HR2 hW3
      go_upto_region 6 with (fail)
      rw [HW3.out]
      clear f1 f2 HW3
      have HSP := Lib.hid (split_at txt m W3 (by omega) (HE.out.laid W3 HR3.out.kept).laid.max)
      have hll := cutAt_length 10 [] txt
      have hcc : txt.count 10 ≤ txt.length := List.count_le_length
      have HPL := Lib.hid (piece_le 10 txt)
      have hs3 := HR3.out.only.size
      generalize cutAt 10 [] txt = L at *
      have hLl : L.length ≤ 65537 := by omega
      clear hll hcc
      go_wp2_with (fail)
      refine HSP.out.mono ?_
      rintro e W4 ⟨rfl, hW4⟩
      have hb34 : Below W3.heap.size W3 W4 := by rw [hW4]; exact (Below.refl _ _).alloc (Nat.le_refl _) _
      have hrow : W4.heap[W3.heap.size]? = some (.cells (strs L).toArray 9 (0, 0)) := by rw [hW4]; exact heap_alloc_new _ _
      have hg0 : W3.heap.size < W4.heap.size := by rw [hW4]; simp
      generalize hgv : W3.heap.size = g0 at *
      have HB34 := Lib.hid hb34
      have HROW := Lib.hid hrow
      have HNG := Lib.hid (show ¬ Grow S w W3 g0 by
        rintro (hk | hk)
        · have := (HR3.out.lain g0 hk).2; omega
        · omega)
      have HS4 := Lib.hid (HR3.out.at_.below (hgv ▸ hb34)).start
      have HGV := Lib.hid hgv
      clear hb34 hrow hW4 hgv HSP
      go_wp2_with (fail)
      obtain ⟨al, hal⟩ : ∃ al, (⟨g0, 0, none⟩ : Addr) = al := ⟨_, rfl⟩
      rw [hal]
      have HAL := Lib.hid hal
      clear hal
      go_loopw [43] (fun t43 W => ∃ (k : Nat) (p' : PF) (wh' : Txt) (vl' vi' vb' vm' : Value), k ≤ L.length ∧ t43 = .int .i64 k ∧ Hid (Rd (Grow S w W3) W4 b base (some ad) T.length c (inside ++ [name]) p' wh' vl' vi' vb' vm' W) ∧ Hid (Short p') ∧ Hid (r = linesP (readP T d (inside ++ [name])) T (inside ++ [name]) name k (L.drop k) p')) (fun t43 _ => L.length - (intOf t43).toNat)
      case atStart => exact ⟨0, p, _, _, _, _, _, by omega, rfl, HS4, Lib.hid hsh, Lib.hid (by rw [HRR.out]; rfl)⟩
      case round =>
        obtain ⟨k, p', wh', vl', vi', vb', vm', hk, rfl, HQ, HSH, HL⟩ := hrel
        have k0 : (0 : Int) ≤ k := by omega
        by_cases hlt : k < L.length
        · have k1 : (k : Int) < L.length := by omega
          have e1 : IntKind.i64.wrap ((k : Int) + 1) = (k : Int) + 1 := IntWalk.i64_in _ (by omega)
          obtain ⟨al', hal', cl⟩ := (reads_row ((HQ.out.only.block g0 hg0 HNG.out).trans HROW.out)).str_at hlt
          obtain rfl : al = al' := by rw [HAL.out] at hal'; exact Option.some.inj hal'
          have hpl := HPL.out _ (List.getElem_mem hlt)
          have hLL := HL.out
          rw [List.drop_eq_getElem_cons hlt, linesP_cons] at hLL
          generalize L[k] = l at *
          have HCUT := Lib.hid (fun W => cut_any l W (by omega))
          have hcl := cut_le l
          have hSK : ((cutP l).1 = [] ∨ (cutP l).1.head? = some 35) → r = linesP (readP T d (inside ++ [name])) T (inside ++ [name]) name (k + 1) (L.drop (k + 1)) p' := fun h => by rw [lineP_skip h] at hLL; exact hLL
          have hSY : ¬ ((cutP l).1 = [] ∨ (cutP l).1.head? = some 35) → (cutP l).1 ≠ wInclude → r = match saysP p' (cutP l).1 (cutP l).2 with
              | some q => linesP (readP T d (inside ++ [name])) T (inside ++ [name]) name (k + 1) (L.drop (k + 1)) q
              | none => .error (⟨name, decL (k + 1)⟩, 80) := fun h h2 => by
            rw [lineP_says h h2] at hLL
            cases hs : saysP p' (cutP l).1 (cutP l).2 with
            | none => rw [hs] at hLL; exact hLL
            | some q => rw [hs] at hLL; exact hLL
          have hIN : (cutP l).1 = wInclude → (incN T (inside ++ [name]) (cutP l).2 ≠ 0 → r = .error (⟨name, decL (k + 1)⟩, incN T (inside ++ [name]) (cutP l).2)) ∧ (incN T (inside ++ [name]) (cutP l).2 = 0 → r = match readP T d (inside ++ [name]) (cutP l).2 p' with
              | .ok q => linesP (readP T d (inside ++ [name])) T (inside ++ [name]) name (k + 1) (L.drop (k + 1)) q
              | .error e => .error e) := fun h2 => by
            rw [lineP_inc h2] at hLL
            exact ⟨fun h => by rw [if_pos h] at hLL; exact hLL, fun h => by rw [if_neg (by simpa using h)] at hLL; exact hLL⟩
          generalize (cutP l).1 = wd at *
          generalize (cutP l).2 = a at *
          have HSK := Lib.hid hSK
          have HSY := Lib.hid hSY
          have HIN2 := Lib.hid hIN
          clear hSK hSY hIN hLL hal' HL
          have hal2 : a.length ≤ 4294967280 := by omega
          clear hcl
          by_cases hemp : wd = []
          · subst hemp
            have HN := Lib.hid (HSK.out (.inl rfl))
            clear HSK HSY HIN2
            go_wp2_with (fail)
            refine (HCUT.out _).mono ?_
            rintro e W5 ⟨rfl, hw5⟩
            have HQ5 := Lib.hid (HQ.out.below hw5)
            clear hw5 HQ cl
            go_wp2_with (fail)
            go_roundw
            case rel => exact ⟨k + 1, p', _, _, _, _, _, by omega, by go_num, HQ5, HSH, HN⟩
            case measure => simp [intOf]; omega
          · obtain ⟨x, hx⟩ : ∃ x, wd.head? = some x := by cases wd with | nil => exact absurd rfl hemp | cons x _ => exact ⟨x, rfl⟩
            have hpos : 0 < wd.length := List.length_pos_iff.2 hemp
            have hx0 : wd[0]'hpos = x := by cases wd with | nil => cases hx | cons y _ => simpa using hx
            have hie : wd.isEmpty = false := by cases wd with | nil => exact absurd rfl hemp | cons y _ => rfl
            have HX := Lib.hid hx
            have HE0 := Lib.hid hemp
            clear hx hemp
            by_cases h35 : x = 35
            · have HN := Lib.hid (HSK.out (.inr (by rw [HX.out, h35])))
              subst h35
              clear HSK HSY HIN2 HX HE0
              go_wp2_with (fail)
              refine (HCUT.out _).mono ?_
              rintro e W5 ⟨rfl, hw5⟩
              have HQ5 := Lib.hid (HQ.out.below hw5)
              clear hw5 HQ cl
              go_wp2_with (fail)
              go_roundw
              case rel => exact ⟨k + 1, p', _, _, _, _, _, by omega, by go_num, HQ5, HSH, HN⟩
              case measure => simp [intOf]; omega
            · have g35 : ((x.toNat : Int) == 35) = false := by
                rw [beq_eq_false_iff_ne]; intro e; exact h35 (UInt8.toNat_inj.1 (by simpa using (by omega : x.toNat = 35)))
              have HNS := Lib.hid (show ¬ (wd = [] ∨ wd.head? = some 35) by
                rintro (e | e)
                · exact HE0.out e
                · rw [HX.out] at e; injection e with e; exact h35 e)
              clear HSK HX HE0 h35
              go_wp2_with (fail)
              refine (HCUT.out _).mono ?_
              rintro e W5 ⟨rfl, hw5⟩
              have HQ5 := Lib.hid (HQ.out.below hw5)
              have hsp : Hid (Below b w W5) := Lib.hid (HR3.out.kept.trans ((HB34.out.mono (by have := HR3.out.at_.hb; omega)).trans HQ5.out.kept))
              have hit := Itoa_any (k + 1) m W5 (by omega) (HE.out.laid W5 hsp.out)
              rw [show (((k + 1 : Nat)) : Int) = (k : Int) + 1 by omega] at hit
              have HIT := Lib.hid hit
              clear hw5 HQ cl hit
              go_wp2_with (fail)
              refine HIT.out.mono ?_
              rintro e W6 ⟨rfl, hw6⟩
              have HQ6 := Lib.hid (HQ5.out.below hw6)
              have f9 := (HQ6.out.at_.cells).2.2.2.2.2.1
              have f10 := (HQ6.out.at_.cells).2.2.2.2.2.2
              have g9 := HQ6.out.at_.soft 9
              have g10 := HQ6.out.at_.soft 10
              have hbl1 := HQ6.out.at_.hb
              obtain ⟨W7, hW7⟩ : ∃ W7, (W6.setCell ⟨b, 9, none⟩ (.string ⟨name.toArray⟩)).setCell ⟨b, 10, none⟩ (.string ⟨(decL (k + 1)).toArray⟩) = W7 := ⟨_, rfl⟩
              have HW7 := Lib.hid hW7
              have HQ7 := Lib.hid (HQ6.out.step (HQ6.out.at_.place ⟨name, decL (k + 1)⟩ W7 hW7.symm))
              clear hw6 hW7 HIT HQ5
              generalize decL (k + 1) = dn at *
              go_upto_region 12 with (fail)
              rw [HW7.out]
              have hsp7 : Hid (Below b w W7) := Lib.hid (HR3.out.kept.trans ((HB34.out.mono (by have := HR3.out.at_.hb; omega)).trans HQ7.out.kept))
              clear f9 f10 g9 g10 HW7 hbl1 hx0 HQ6 hsp
              have hbw7 : Hid (base ≤ W7.heap.size) := Lib.hid (Nat.le_trans hbw hsp7.out.size)
              by_cases hinc : wd = wInclude
              · have ginc : (wd == [105, 110, 99, 108, 117, 100, 101]) = true := by rw [hinc]; rfl
                have HI2 := Lib.hid (HIN2.out hinc)
                obtain ⟨Bq, dq, hvq, -, -, hrdq⟩ := IsSlice.of_own HQ7.out.at_.list
                subst hvq
                have HICL := Lib.hid (include_any T (some ad) c b (inside ++ [name]) Bq dq a W7 (HE.out.rows W7 hsp7.out) hl HQ7.out.at_.cells.2.1 HQ7.out.at_.cells.1 hrdq (by simp; omega))
                clear HSY HNS HIN2 hinc hrdq
                go_wp2_with (fail)
                refine HICL.out.mono ?_
                rintro e W8 ⟨rfl, hw8⟩
                have HQ8 := Lib.hid (HQ7.out.below hw8)
                have hsp8 : Hid (Below b w W8) := Lib.hid (hsp7.out.trans (hw8.mono (Nat.le_of_lt HQ7.out.at_.hb)))
                have hbw8 : base ≤ W8.heap.size := Nat.le_trans hbw hsp8.out.size
                clear HICL hw8
                by_cases hz : incN T (inside ++ [name]) a = 0
                · have hzz := incN_zero hz
                  have HRC := Lib.hid (HIH.out (inside ++ [name]) a p' _ _ _ _ _ _ W8 (by simp; omega) (by have := hzz.2; simp at this; omega) hzz.1 HSH.out HQ8.out.at_ (HE.out.on hsp8.out) hbw8)
                  have HI3 := Lib.hid (HI2.out.2 hz)
                  rw [hz]
                  clear hz hzz HI2 hbw8
                  generalize hrr : readP T d (inside ++ [name]) a p' = rr at HRC HI3
                  cases rr with
                  | ok q =>
                    clear hrr
                    go_wp2_with (fail)
                    refine HRC.out.mono ?_
                    rintro e W9 ⟨in9, p9, wh9, vl9, vi9, vb9, vm9, hq9, rfl, rfl, rfl, hsh9⟩
                    have HQ9 := Lib.hid (HQ8.out.trans hq9)
                    have HS9 := Lib.hid hsh9
                    clear hq9 hsh9 HRC
                    go_wp2_with (fail)
                    go_roundw
                    case rel => exact ⟨k + 1, _, _, _, _, _, _, by omega, by go_num, HQ9, HS9, HI3⟩
                    case measure => simp [intOf]; omega
                  | error x =>
                    have hne := readP_err _ _ _ _ _ _ hrr
                    have gne : (((x.2 : Nat) : Int) != 0) = true := by rw [bne_iff_ne]; omega
                    clear hrr hne
                    go_wp2_with (fail)
                    refine HRC.out.mono ?_
                    rintro e W9 ⟨in9, p9, wh9, vl9, vi9, vb9, vm9, hq9, rfl, rfl⟩
                    have HQ9 := Lib.hid (HQ8.out.trans hq9)
                    clear hq9 HRC
                    go_wp2_with (fail)
                    go_ret
                    exact ⟨_, _, _, _, _, _, _, HR3.out.span (by rw [HGV.out]; exact HB34.out) HQ9.out, by rw [HI3.out]; exact ⟨rfl, rfl⟩⟩
                · have HI3 := Lib.hid (HI2.out.1 hz)
                  have gne : (((incN T (inside ++ [name]) a : Nat) : Int) != 0) = true := by rw [bne_iff_ne]; omega
                  generalize incN T (inside ++ [name]) a = ic at *
                  clear hz HI2 hbw8
                  go_wp2_with (fail)
                  go_ret
                  exact ⟨_, _, _, _, _, _, _, HR3.out.span (by rw [HGV.out]; exact HB34.out) HQ8.out, by rw [HI3.out]; exact ⟨rfl, rfl⟩⟩
              · have ginc : (wd == [105, 110, 99, 108, 117, 100, 101]) = false := beq_eq_false_iff_ne.2 hinc
                have HSY2 := Lib.hid (HSY.out HNS.out hinc)
                have HSA := Lib.hid (says_any wd a HQ7.out.at_ (fun W hW => (HE.out.laid W (hsp7.out.trans hW)).laid.tabs) HSH.out hbw7.out hal2)
                have HSL := Lib.hid (fun q (h : saysP p' wd a = some q) => says_len h HSH.out)
                clear HSY HNS HIN2 hinc
                generalize saysP p' wd a = sr at *
                go_wp2_with (fail)
                refine HSA.out.mono ?_
                rintro e W8 ⟨p8, vl8, vi8, vb8, vm8, rfl, hq8, hp8⟩
                have HQ8 := Lib.hid (HQ7.out.trans hq8)
                have HP8 := Lib.hid hp8
                clear hq8 hp8 HSA
                cases sr with
                | none =>
                  clear HSL HP8
                  go_wp2_with (fail)
                  go_ret
                  exact ⟨_, _, _, _, _, _, _, HR3.out.span (by rw [HGV.out]; exact HB34.out) HQ8.out, by rw [HSY2.out]; exact ⟨rfl, rfl⟩⟩
                | some q =>
                  obtain rfl := HP8.out q rfl
                  have HS9 : Hid (Short p8) := Lib.hid (HSL.out _ rfl)
                  clear HSL HP8
                  go_wp2_with (fail)
                  go_roundw
                  case rel => exact ⟨k + 1, _, _, _, _, _, _, by omega, by go_num, HQ8, HS9, HSY2⟩
                  case measure => simp [intOf]; omega
        · obtain rfl : k = L.length := by omega
          have k1 : ¬ (L.length : Int) < L.length := by omega
          obtain ⟨Bq, dq, hvq, hcap, hmx, -⟩ := IsSlice.of_own HQ.out.at_.list
          subst hvq
          have c0 := HQ.out.at_.cells.1
          have z0 := HQ.out.at_.soft 0
          have hbl := HQ.out.at_.hb
          have HLF : Hid (r = .ok p') := Lib.hid (by rw [HL.out, List.drop_length]; rfl)
          have HQF := Lib.hid (HQ.out.step (HQ.out.at_.cutList (w' := wr.setCell ⟨b, 0, none⟩ (.slice Bq inside.length dq)) rfl rfl))
          rw [List.length_append, List.length_singleton] at c0 hcap
          have e3 : IntKind.i64.wrap (((inside.length : Int) + 1) - 1) = (inside.length : Int) := by rw [IntWalk.i64_in _ (by omega)]; omega
          have n0 : (0 : Int) ≤ (inside.length : Int) := by omega
          have n1 : (inside.length : Int) ≤ (dq : Int) := by omega
          have n2 : inside.length ≤ dq := by omega
          clear HQ HL HS4
          go_wp2_with (fail)
          go_region
          go_wp2_with (fail)
          go_ret
          exact ⟨_, _, _, _, _, _, _, HR3.out.span (by rw [HGV.out]; exact HB34.out) (HQF.out.below ⟨rfl, rfl, rfl, Nat.le_refl _, fun _ _ => rfl⟩), by rw [HLF.out]; exact ⟨rfl, rfl, rfl, HSH.out⟩⟩
end Go.Proofs.YtoifnnhbejofjaaDoor
end

/- prof.Parse. -/
section
set_option linter.unusedVariables false
namespace Go.Proofs.YtoifnnhbejofjaaDoor
open Go.RowKit Plain

theorem results_rows_tmp {P : Program} {fn : Func} {p q u : Tmp} {ty tz : TypeId} (h : fn.results = #[.cell p ty, .cell q tz, .tmp u]) (tmps : Array Value) (w : World) (g g' : Nat) (t t' : TypeId) (cs cs' : Array Value) (fr fr' : Nat × Nat) (d d' : TypeDesc)
    (hp : tmps.getD p undef = .pointer (some ⟨g, 0, none⟩)) (hg : w.heap[g]? = some (.cells cs t fr)) (hu : P.underlying ty = some d) (hd : (match d with | .struct _ | .array _ _ => true | _ => false) = true) (hi : (P.info? ty).map (·.size) = some cs.size)
    (hp' : tmps.getD q undef = .pointer (some ⟨g', 0, none⟩)) (hg' : w.heap[g']? = some (.cells cs' t' fr')) (hu' : P.underlying tz = some d') (hd' : (match d' with | .struct _ | .array _ _ => true | _ => false) = true) (hi' : (P.info? tz).map (·.size) = some cs'.size) :
    (results fn tmps).run P w = .ok (.tuple #[.agg cs, .agg cs', tmps.getD u undef]) w := by
  have e1 : tmps[p]?.getD undef = .pointer (some ⟨g, 0, none⟩) := by simpa using hp
  have e2 : tmps[q]?.getD undef = .pointer (some ⟨g', 0, none⟩) := by simpa using hp'
  simp [results, h, e1, e2, asAddr, run_loadVar_row w g t ty cs fr d hg hu hd hi, run_loadVar_row w g' t' tz cs' fr' d' hg' hu' hd' hi', Sem.run_bind]
theorem size_pf : (Tryd.prog.info? 27).map (·.size) = some 7 := by kernel_rfl
theorem size_txt : (Tryd.prog.info? 29).map (·.size) = some 2 := by kernel_rfl
def pfC (vi vb vm : Value) (p : PF) : Array Value := #[vi, vb, vm, .int .i64 p.pre, .int .i64 p.frc, .bool p.bat, .bool p.fst]
theorem set_row7 {w : World} {g : Nat} {a b c d e f h a' b' c' d' e' f' h' : Value} {t : TypeId} (hh : w.heap[g]? = some (.cells #[a, b, c, d, e, f, h] t (0, 0))) :
    (((((((w.setCell ⟨g, 0, none⟩ a').setCell ⟨g, 1, none⟩ b').setCell ⟨g, 2, none⟩ c').setCell ⟨g, 3, none⟩ d').setCell ⟨g, 4, none⟩ e').setCell ⟨g, 5, none⟩ f').setCell ⟨g, 6, none⟩ h').heap[g]? = some (.cells #[a', b', c', d', e', f', h'] t (0, 0)) := by
  rw [heap_set (heap_set (heap_set (heap_set (heap_set (heap_set (heap_set hh 0 a') 1 b') 2 c') 3 d') 4 e') 5 f') 6 h']; rfl
theorem set_row2 {w : World} {g : Nat} {a b a' b' : Value} {t : TypeId} (hh : w.heap[g]? = some (.cells #[a, b] t (0, 0))) :
    ((w.setCell ⟨g, 0, none⟩ a').setCell ⟨g, 1, none⟩ b').heap[g]? = some (.cells #[a', b'] t (0, 0)) := by
  rw [heap_set (heap_set hh 0 a') 1 b']; rfl
theorem below_row7 {B g : Nat} {w0 w : World} {a b c d e f h : Value} (hh : Below B w0 w) (hg : B ≤ g) : Below B w0 (((((((w.setCell ⟨g, 0, none⟩ a).setCell ⟨g, 1, none⟩ b).setCell ⟨g, 2, none⟩ c).setCell ⟨g, 3, none⟩ d).setCell ⟨g, 4, none⟩ e).setCell ⟨g, 5, none⟩ f).setCell ⟨g, 6, none⟩ h) :=
  ((((((hh.setCell (p := ⟨g, 0, none⟩) hg a).setCell (p := ⟨g, 1, none⟩) hg b).setCell (p := ⟨g, 2, none⟩) hg c).setCell (p := ⟨g, 3, none⟩) hg d).setCell (p := ⟨g, 4, none⟩) hg e).setCell (p := ⟨g, 5, none⟩) hg f).setCell (p := ⟨g, 6, none⟩) hg h
theorem below_row2 {B g : Nat} {w0 w : World} {a b : Value} (hh : Below B w0 w) (hg : B ≤ g) : Below B w0 ((w.setCell ⟨g, 0, none⟩ a).setCell ⟨g, 1, none⟩ b) :=
  (hh.setCell (p := ⟨g, 0, none⟩) hg a).setCell (p := ⟨g, 1, none⟩) hg b

theorem only_row7 {S : Nat → Prop} {g : Nat} {w0 w : World} {a b c d e f h : Value} (hh : Only S w0 w) (hg : S g) : Only S w0 (((((((w.setCell ⟨g, 0, none⟩ a).setCell ⟨g, 1, none⟩ b).setCell ⟨g, 2, none⟩ c).setCell ⟨g, 3, none⟩ d).setCell ⟨g, 4, none⟩ e).setCell ⟨g, 5, none⟩ f).setCell ⟨g, 6, none⟩ h) :=
  ((((((hh.set (p := ⟨g, 0, none⟩) (.inl hg) a).set (p := ⟨g, 1, none⟩) (.inl hg) b).set (p := ⟨g, 2, none⟩) (.inl hg) c).set (p := ⟨g, 3, none⟩) (.inl hg) d).set (p := ⟨g, 4, none⟩) (.inl hg) e).set (p := ⟨g, 5, none⟩) (.inl hg) f).set (p := ⟨g, 6, none⟩) (.inl hg) h
theorem only_row2 {S : Nat → Prop} {g : Nat} {w0 w : World} {a b : Value} (hh : Only S w0 w) (hg : S g) : Only S w0 ((w.setCell ⟨g, 0, none⟩ a).setCell ⟨g, 1, none⟩ b) :=
  (hh.set (p := ⟨g, 0, none⟩) (.inl hg) a).set (p := ⟨g, 1, none⟩) (.inl hg) b
theorem row7_ne {w : World} {g g' : Nat} {a b c d e f h : Value} (hne : g' ≠ g) : (((((((w.setCell ⟨g, 0, none⟩ a).setCell ⟨g, 1, none⟩ b).setCell ⟨g, 2, none⟩ c).setCell ⟨g, 3, none⟩ d).setCell ⟨g, 4, none⟩ e).setCell ⟨g, 5, none⟩ f).setCell ⟨g, 6, none⟩ h).heap[g']? = w.heap[g']? := by
  rw [Below.heap_setCell _ _ _ _ hne, Below.heap_setCell _ _ _ _ hne, Below.heap_setCell _ _ _ _ hne, Below.heap_setCell _ _ _ _ hne, Below.heap_setCell _ _ _ _ hne, Below.heap_setCell _ _ _ _ hne, Below.heap_setCell _ _ _ _ hne]
theorem row2_ne {w : World} {g g' : Nat} {a b : Value} (hne : g' ≠ g) : ((w.setCell ⟨g, 0, none⟩ a).setCell ⟨g, 1, none⟩ b).heap[g']? = w.heap[g']? := by
  rw [Below.heap_setCell _ _ _ _ hne, Below.heap_setCell _ _ _ _ hne]
theorem own_rowsP {α : Type} {enc : α → List Value} {n : Nat} (hm : ∀ x, (enc x).length = n) {w : World} {base : Nat} {e : TypeId} {A : Option Addr} {c k : Nat} {l : List α} (h : w.ownsRow base e n (.slice A k c) k (rowsE enc l)) (hk : k = l.length) : IsRows w n A (l.map enc) := by
  subst hk
  intro j hj
  have hj' : j < l.length := by simpa using hj
  rcases h.2 with ⟨hv, h0⟩ | ⟨g, cap, cur, hv, _⟩
  · omega
  · injection hv with h1 _ h3
    subst h1 h3
    refine ⟨⟨g, 0, none⟩, rfl, fun i u hu => ?_⟩
    have hi : i < n := by
      have := (List.getElem?_eq_some_iff.1 hu).1
      rw [List.getElem_map, hm] at this; exact this
    have := rowsE_cell hm h hj' hi
    rw [show (⟨g, 0, none⟩ : Addr).add (j * n + i) = ⟨g, j * n + i, none⟩ by unfold Addr.add; split <;> simp_all, this]
    rw [List.getElem_map] at hu
    exact hu
/-- What Parse tells. -/
def ParseOut (w : World) (r : PF × Txt × Nat) (e : Ending) (w' : World) : Prop :=
  ∃ A0 c0 A1 c1 A2 c2, e = .returned (.tuple #[pfV A0 c0 A1 c1 A2 c2 r.1, .agg (txtV r.2.1).toArray, .int .i64 (r.2.2 : Nat)]) ∧ PfAt w' A0 c0 A1 c1 A2 c2 r.1 ∧ Below w.heap.size w w'

theorem pf0_at (w : World) : PfAt w none 0 none 0 none 0 PF0 :=
  ⟨fun k hk => absurd hk (by simp [PF0]), fun k hk => absurd hk (by simp [PF0]), fun k hk => absurd hk (by simp [PF0]), ⟨Nat.le_refl _, Nat.le_refl _, Nat.le_refl _⟩, ⟨Nat.zero_le _, Nat.zero_le _, Nat.zero_le _⟩⟩

set_option maxHeartbeats 8000000 in
set_option maxRecDepth 100000 in
theorem parse_any (T : List Txt) (A : Option Addr) (c : Nat) (name : List UInt8) (m : Int) (w : World) (hL : LaidP w m) (hR : IsRows w 2 A (T.map txtV)) (hl : T.length ≤ 9223372036854775807) (hx : ∀ x ∈ T, x.text.length ≤ 9223372036854775807) :
    Calls Tryd.prog 7 #[.slice A T.length c, .string ⟨name.toArray⟩] w (ParseOut w (parseP T name)) := by
  obtain ⟨out, hout⟩ : ∃ o, parseP T name = o := ⟨_, rfl⟩
  rw [hout]
  obtain ⟨W0, hW0⟩ : ∃ W0, ((w.alloc (.cells #[.slice none 0 0, .slice none 0 0, .slice none 0 0, .int .i64 0, .int .i64 0, .bool false, .bool false] 27)).alloc (.cells #[.string ⟨#[]⟩, .string ⟨#[]⟩] 29)).alloc (.cells #[.slice none 0 0, .slice A T.length c, .slice none 0 0, .slice none 0 0, .slice none 0 0, .int .i64 0, .int .i64 0, .bool false, .bool false, .string ⟨#[]⟩, .string ⟨#[]⟩] 47) = W0 := ⟨_, rfl⟩
  have hsz : W0.heap.size = w.heap.size + 3 := by rw [← hW0]; simp
  have hB0 : Below w.heap.size w W0 := by
    rw [← hW0]
    exact (((Below.refl w.heap.size w).alloc (Nat.le_refl _) _).alloc (by simp) _).alloc (by simp; omega) _
  have hq0 : W0.heap[w.heap.size]? = some (.cells #[.slice none 0 0, .slice none 0 0, .slice none 0 0, .int .i64 0, .int .i64 0, .bool false, .bool false] 27 (0, 0)) := by
    rw [← hW0, Below.heap_alloc _ _ _ (by simp; omega), Below.heap_alloc _ _ _ (by simp)]; exact heap_alloc_new _ _
  have hq1 : W0.heap[w.heap.size + 1]? = some (.cells #[.string ⟨#[]⟩, .string ⟨#[]⟩] 29 (0, 0)) := by
    rw [← hW0, Below.heap_alloc _ _ _ (by simp)]
    have := heap_alloc_new (w.alloc (.cells #[.slice none 0 0, .slice none 0 0, .slice none 0 0, .int .i64 0, .int .i64 0, .bool false, .bool false] 27)) (.cells #[.string ⟨#[]⟩, .string ⟨#[]⟩] 29)
    simpa using this
  have hqb : W0.heap[w.heap.size + 1 + 1]? = some (.cells (rdC (.slice none 0 0) A T.length c (.slice none 0 0) (.slice none 0 0) (.slice none 0 0) PF0 ⟨[], []⟩) 47 (0, 0)) := by
    have := heap_alloc_new ((w.alloc (.cells #[.slice none 0 0, .slice none 0 0, .slice none 0 0, .int .i64 0, .int .i64 0, .bool false, .bool false] 27)).alloc (.cells #[.string ⟨#[]⟩, .string ⟨#[]⟩] 29)) (.cells #[.slice none 0 0, .slice A T.length c, .slice none 0 0, .slice none 0 0, .slice none 0 0, .int .i64 0, .int .i64 0, .bool false, .bool false, .string ⟨#[]⟩, .string ⟨#[]⟩] 47)
    rw [hW0] at this
    simpa [rdC, PF0] using this
  have hRd : RdAt (fun k => k = w.heap.size + 1 + 1) (w.heap.size + 1 + 1) (w.heap.size + 1 + 1 + 1) A T.length c [] PF0 ⟨[], []⟩ (.slice none 0 0) (.slice none 0 0) (.slice none 0 0) (.slice none 0 0) W0 :=
    ⟨hqb, World.ownsRow_nil _ _ _ _, World.ownsRow_nil _ _ _ _, World.ownsRow_nil _ _ _ _, World.ownsRow_nil _ _ _ _, Apart.nil _ _ _, ⟨rfl, (fun k hk => by cases hk), (fun k hk => by cases hk), (fun k hk => by cases hk), (fun k hk => by cases hk)⟩, fun k hk => by subst hk; omega, by omega⟩
  have hE : EnvP (w.heap.size + 1 + 1) T A m W0 := ⟨fun W hW => hL.below (hB0.trans (hW.mono (by omega))), fun W hW => hR.below (hB0.trans (hW.mono (by omega)))⟩
  have HF := Lib.hid (find_any T A c (w.heap.size + 1 + 1) name W0 (hR.below hB0) hl hRd.cells.2.1)
  have HW0 := Lib.hid hW0
  have HB0 := Lib.hid hB0
  have HQ0 := Lib.hid hq0
  have HQ1 := Lib.hid hq1
  have HRD := Lib.hid hRd
  have HE := Lib.hid hE
  clear hW0 hB0 hqb hRd hE hL hR
  cases hf : findT T name with
  | none =>
    have hfI : findI T name = -1 := by unfold findI; rw [hf]
    rw [hfI] at HF
    have HOUT : Hid (out = (PF0, ⟨name, [48]⟩, 82)) := Lib.hid (by rw [← hout]; unfold parseP; rw [hf])
    clear hf hfI hout
    have q0 := cell_of_row W0 _ 0 _ _ _ hq0
    go_enter Tryd.func7, Tryd.ntmps7
    go_upto_region 2 with (fail)
    rw [HW0.out]
    go_wp2_with (fail)
    refine HF.out.mono ?_
    rintro e w1 ⟨rfl, hw1⟩
    have hk0 := (hw1.block w.heap.size (by omega)).trans HQ0.out
    have hk1 := (hw1.block (w.heap.size + 1) (by omega)).trans HQ1.out
    have HK0 := Lib.hid hk0
    have HK1 := Lib.hid hk1
    have p0 := cell_of_row w1 _ 0 _ _ _ hk0
    have p1 := cell_of_row w1 _ 1 _ _ _ hk0
    have p2 := cell_of_row w1 _ 2 _ _ _ hk0
    have p3 := cell_of_row w1 _ 3 _ _ _ hk0
    have p4 := cell_of_row w1 _ 4 _ _ _ hk0
    have p5 := cell_of_row w1 _ 5 _ _ _ hk0
    have p6 := cell_of_row w1 _ 6 _ _ _ hk0
    have t0 := cell_of_row w1 _ 0 _ _ _ hk1
    have t1 := cell_of_row w1 _ 1 _ _ _ hk1
    have z0 := fun i => frozen_of_row w1 w.heap.size i _ _ hk0
    have z1 := fun i => frozen_of_row w1 (w.heap.size + 1) i _ _ hk1
    have HB1 := Lib.hid (HB0.out.trans (hw1.mono (by omega)))
    clear hk0 hk1 hw1 q0
    go_wp2_with (fail)
    refine bodyPost_ret (results_rows_tmp Tryd.results7 _ _ w.heap.size (w.heap.size + 1) 27 29 _ _ (0, 0) (0, 0) _ _ rfl ((row2_ne (by omega)).trans (set_row7 HK0.out)) Tryd.underlying27 rfl size_pf rfl (set_row2 ((row7_ne (by omega)).trans HK1.out)) Tryd.underlying29 rfl size_txt) rfl ?_
    rw [HOUT.out]
    exact ⟨none, 0, none, 0, none, 0, rfl, pf0_at _, below_row2 (below_row7 HB1.out (Nat.le_refl _)) (by omega)⟩
  | some i =>
    have hfI : findI T name = (i : Int) := by unfold findI; rw [hf]
    rw [hfI] at HF
    have k0 : decide ((i : Int) < 0) = false := by rw [decide_eq_false_iff_not]; omega
    have hOUT : out = match readP T 8 [] name PF0 with
      | .ok p => (p, ⟨[], []⟩, 0)
      | .error e => (PF0, e.1, e.2) := by rw [← hout]; unfold parseP; rw [hf]; rfl
    have hne : findT T name ≠ none := by rw [hf]; simp
    have HRE := Lib.hid (readP_err T 8 [] name PF0)
    have HRA := Lib.hid (fun W (hW : Below W0.heap.size W0 W) => read_any T A c (w.heap.size + 1 + 1) (w.heap.size + 1 + 1 + 1) m hl hx 8 [] name PF0 ⟨[], []⟩ _ _ _ _ _ W rfl (by decide) hne ⟨by decide, by decide, by decide⟩ (HRD.out.below hW) (HE.out.on (hW.mono (by omega))) (by have := hW.size; omega))
    generalize readP T 8 [] name PF0 = rr at *
    have HO := Lib.hid hOUT
    clear hf hfI hout hne hOUT
    go_enter Tryd.func7, Tryd.ntmps7
    go_upto_region 2 with (fail)
    rw [HW0.out]
    go_wp2_with (fail)
    refine HF.out.mono ?_
    rintro e w1 ⟨rfl, hw1⟩
    have HB1 := Lib.hid hw1
    clear hw1
    go_wp2_with (fail)
    refine (HRA.out _ HB1.out).mono ?_
    rintro e w2 ⟨in2, p2, wh2, vl, vi, vb, vm, hrd2, hres⟩
    have hB2 := HB1.out.mono (show w.heap.size + 1 + 1 ≤ W0.heap.size by omega)
    have hB3 := hB2.trans hrd2.kept
    have hk0 := (hB3.block w.heap.size (by omega)).trans HQ0.out
    have hk1 := (hB3.block (w.heap.size + 1) (by omega)).trans HQ1.out
    have HK0 := Lib.hid hk0
    have HK1 := Lib.hid hk1
    have p0 := cell_of_row w2 _ 0 _ _ _ hk0
    have p1 := cell_of_row w2 _ 1 _ _ _ hk0
    have p2' := cell_of_row w2 _ 2 _ _ _ hk0
    have p3 := cell_of_row w2 _ 3 _ _ _ hk0
    have p4 := cell_of_row w2 _ 4 _ _ _ hk0
    have p5 := cell_of_row w2 _ 5 _ _ _ hk0
    have p6 := cell_of_row w2 _ 6 _ _ _ hk0
    have t0 := cell_of_row w2 _ 0 _ _ _ hk1
    have t1 := cell_of_row w2 _ 1 _ _ _ hk1
    have z0 := fun i => frozen_of_row w2 w.heap.size i _ _ hk0
    have z1 := fun i => frozen_of_row w2 (w.heap.size + 1) i _ _ hk1
    have hd := hrd2.at_.head
    unfold rdC at hd
    have y2 := cell_of_row w2 _ 2 _ _ _ hd
    have y3 := cell_of_row w2 _ 3 _ _ _ hd
    have y4 := cell_of_row w2 _ 4 _ _ _ hd
    have y5 := cell_of_row w2 _ 5 _ _ _ hd
    have y6 := cell_of_row w2 _ 6 _ _ _ hd
    have y7 := cell_of_row w2 _ 7 _ _ _ hd
    have y8 := cell_of_row w2 _ 8 _ _ _ hd
    have y9 := cell_of_row w2 _ 9 _ _ _ hd
    have y10 := cell_of_row w2 _ 10 _ _ _ hd
    have HR2 := Lib.hid hrd2
    have HBX := Lib.hid (HB0.out.trans (hB3.mono (show w.heap.size ≤ w.heap.size + 1 + 1 by omega)))
    clear hk0 hk1 hd hrd2 hB2 hB3 HRA HB1
    cases rr with
    | ok q =>
      obtain ⟨rfl, rfl, rfl, -⟩ := hres
      obtain ⟨Ai, ci, rfl, ki1, ki2, -⟩ := IsSlice.of_own HR2.out.at_.ign
      obtain ⟨Ab, cb, rfl, kb1, kb2, -⟩ := IsSlice.of_own HR2.out.at_.bak
      obtain ⟨Am, cm, rfl, km1, km2, -⟩ := IsSlice.of_own HR2.out.at_.mrg
      have HCAP := Lib.hid (And.intro (And.intro ki1 (And.intro kb1 km1)) (And.intro ki2 (And.intro kb2 km2)))
      clear HRE ki1 ki2 kb1 kb2 km1 km2
      go_wp2_with (fail)
      refine bodyPost_ret (results_rows_tmp Tryd.results7 _ _ w.heap.size (w.heap.size + 1) 27 29 _ _ (0, 0) (0, 0) _ _ rfl ((row2_ne (by omega)).trans (set_row7 HK0.out)) Tryd.underlying27 rfl size_pf rfl (set_row2 ((row7_ne (by omega)).trans HK1.out)) Tryd.underlying29 rfl size_txt) rfl ?_
      rw [HO.out]
      have hon := fun (a b c d e f h i j : Value) => only_row2 (S := fun k => k = w.heap.size ∨ k = w.heap.size + 1) (g := w.heap.size + 1) (a := i) (b := j) (only_row7 (S := fun k => k = w.heap.size ∨ k = w.heap.size + 1) (g := w.heap.size) (a := a) (b := b) (c := c) (d := d) (e := e) (f := f) (h := h) (Only.refl _ w2) (.inl rfl)) (.inr rfl)
      have hnb : ∀ {v : Value} {e : TypeId} {s n : Nat} {xs : List Value}, w2.ownsRow (w.heap.size + 1 + 1 + 1) e s v n xs → ∀ k, v.ownBlock = some k → ¬ (k = w.heap.size ∨ k = w.heap.size + 1) := fun h k hk e => by have := (h.lt k hk).1; omega
      refine ⟨Ai, ci, Ab, cb, Am, cm, rfl, ⟨own_rowsP rulV_length (own_only HR2.out.at_.ign (hon _ _ _ _ _ _ _ _ _) (hnb HR2.out.at_.ign)) rfl, own_rowsP rulV_length (own_only HR2.out.at_.bak (hon _ _ _ _ _ _ _ _ _) (hnb HR2.out.at_.bak)) rfl, own_rowsP pgmV_length (own_only HR2.out.at_.mrg (hon _ _ _ _ _ _ _ _ _) (hnb HR2.out.at_.mrg)) rfl, HCAP.out.1, HCAP.out.2⟩, below_row2 (below_row7 HBX.out (Nat.le_refl _)) (by omega)⟩
    | error x =>
      obtain ⟨rfl, rfl⟩ := hres
      have hxe := HRE.out x rfl
      have gne : (((x.2 : Nat) : Int) != 0) = true := by rw [bne_iff_ne]; omega
      clear HRE hxe
      go_wp2_with (fail)
      obtain ⟨WZ, hWZ⟩ : ∃ WZ, ((((((((((w2.setCell ⟨w.heap.size, 0, none⟩ (.slice none 0 0)).setCell ⟨w.heap.size, 1, none⟩ (.slice none 0 0)).setCell ⟨w.heap.size, 2, none⟩ (.slice none 0 0)).setCell ⟨w.heap.size, 3, none⟩ (.int .i64 0)).setCell ⟨w.heap.size, 4, none⟩ (.int .i64 0)).setCell ⟨w.heap.size, 5, none⟩ (.bool false)).setCell ⟨w.heap.size, 6, none⟩ (.bool false)).setCell ⟨w.heap.size + 1, 0, none⟩ (.string ⟨x.1.name.toArray⟩)).setCell ⟨w.heap.size + 1, 1, none⟩ (.string ⟨x.1.text.toArray⟩))) = WZ := ⟨_, rfl⟩
      have HZ0 := Lib.hid (show WZ.heap[w.heap.size]? = _ from hWZ ▸ ((row2_ne (by omega)).trans (set_row7 HK0.out)))
      have HZ1 := Lib.hid (show WZ.heap[w.heap.size + 1]? = _ from hWZ ▸ (set_row2 ((row7_ne (by omega)).trans HK1.out)))
      have HZB := Lib.hid (show Below w.heap.size w WZ from hWZ ▸ (below_row2 (below_row7 HBX.out (Nat.le_refl _)) (by omega)))
      have HWZ := Lib.hid hWZ
      clear hWZ
      go_region
      go_wp2_with (fail)
      rw [HWZ.out]
      refine bodyPost_ret (results_rows_tmp Tryd.results7 _ WZ.drew w.heap.size (w.heap.size + 1) 27 29 _ _ (0, 0) (0, 0) _ _ rfl HZ0.out Tryd.underlying27 rfl size_pf rfl HZ1.out Tryd.underlying29 rfl size_txt) rfl ?_
      rw [HO.out]
      exact ⟨none, 0, none, 0, none, 0, rfl, pf0_at _, HZB.out.trans ⟨rfl, rfl, rfl, Nat.le_refl _, fun _ _ => rfl⟩⟩
end Go.Proofs.YtoifnnhbejofjaaDoor
end
