/- Texts joined: PlanCopy, CellMax, Tabs, PlanBase1. -/
import Derived.Test.YtjhjepkmcbjgoaaDoorBPlanBase19
import Derived.Deep.AppendLies
import Derived.Deep.RegionHeld3
import Derived.Test.YtjhjepkmcbjgoaaDoorShelf
import Derived.Test.YtjhjepkmcbjgoaaDoorBPlanBase11
import Derived.Shelf.Vars
import Derived.Test.YtjhjepkmcbjgoaaDoorBPlanBase14
import Derived.Test.YtjhjepkmcbjgoaaDoorBPlanBase18
import Derived.Test.YtjhjepkmcbjgoaaDoorCards
import Derived.LaidMore
set_option linter.unusedSimpArgs false
set_option linter.unusedVariables false

/- Copies of rows: append onto a row of the call's own. -/
section
set_option linter.unusedVariables false
namespace Go.Proofs.YtjhjepkmcbjgoaaDoor
open Go.RowKit Plain

theorem itmV_length (x : Itm) : (itmV x).length = 2 := rfl
theorem itmV_oneCell (x : Itm) : ∀ u ∈ itmV x, u.oneCell' = true := by intro u hu; simp [itmV] at hu; rcases hu with rfl | rfl <;> rfl
theorem info_item : (Tryd.prog.info? 38).map (fun i => (i.zero, i.size, i.bytes)) = some (some (.agg #[.string ByteArray.empty, .int .i64 0]), 2, 24) := by kernel_rfl
theorem below_alloc1 (w : World) (o : Obj) : Below w.heap.size w (w.alloc o) := (Below.refl _ _).alloc (Nat.le_refl _) o
theorem empty_own1 (w : World) (t : TypeId) (size : Nat) : (w.alloc (.cells #[] t)).ownsRow w.heap.size t size (.slice (some ⟨w.heap.size, 0, none⟩) 0 0) 0 [] :=
  ⟨by simp, .inr ⟨w.heap.size, 0, #[], rfl, Nat.le_refl _, heap_alloc_new w _, Nat.le_refl _, by unfold maxLen; omega, by simp, by simp⟩⟩
/-- rows that may be read, as one row of cells -/
theorem rows_reads {α : Type} {enc : α → List Value} (hm : ∀ x, (enc x).length = 2) {w : World} {A : Option Addr} {l : List α} (h : IsRows w 2 A (l.map enc)) : Reads w 2 A l.length (rowsE enc l) := by
  refine ⟨rowsE_length hm l, fun h0 => ?_⟩
  obtain ⟨ad, hA, -⟩ := h 0 (by simpa using h0)
  subst hA
  refine ⟨ad, rfl, fun j u hu => ?_⟩
  have hj : j < (rowsE enc l).length := (List.getElem?_eq_some_iff.1 hu).1
  rw [rowsE_length hm] at hj
  have hk : j / 2 < l.length := by omega
  have hi : j % 2 < 2 := Nat.mod_lt _ (by omega)
  have e : j = j / 2 * 2 + j % 2 := by omega
  obtain ⟨ad', ha, hc⟩ := h (j / 2) (by simpa using hk)
  injection ha with ha
  subst ha
  have e1 : (l.map enc)[j / 2]'(by simpa using hk) = enc l[j / 2] := by simp
  rw [e1] at hc
  have h2 := rowsE_get hm l (j / 2) hk (j % 2) hi
  rw [← e, hu] at h2
  have := hc (j % 2) u h2.symm
  rwa [← e] at this

theorem make_post2 {w : World} {r : List Chc × Nat × Nat} {e : Ending} {w' : World} (h : MakePost w r e w') :
    ∃ A c, e = .returned (.tuple #[.slice A r.1.length c, .int .i64 (r.2.1 : Nat), .int .i64 (r.2.2 : Nat)]) ∧ IsRows w' 2 A (r.1.map chcV) ∧ Below w.heap.size w w' ∧ r.1.length ≤ c ∧ c ≤ maxLen := by
  obtain ⟨v, rfl, h1, h2⟩ := h
  obtain ⟨A, c, rfl, h3, h4, -⟩ := IsSlice.of_own h1
  exact ⟨A, c, rfl, own_rows chcV_length h1 rfl, h2, h3, h4⟩
theorem reads_row {w : World} {k : Nat} {a b : Value} {t : TypeId} {m : Nat × Nat} (h : w.heap[k]? = some (.cells #[a, b] t m)) : Reads w 2 (some ⟨k, 0, none⟩) 1 [a, b] :=
  ⟨rfl, fun _ => ⟨_, rfl, fun j u hu => by
    rw [add_zero']
    unfold World.cell?
    rw [h]
    match j, hu with
    | 0, hu => simpa using hu
    | 1, hu => simpa using hu
    | j + 2, hu => simp at hu⟩⟩
theorem rows_left {α : Type} {enc : α → List Value} {w : World} {n : Nat} {A : Option Addr} {l k : List α} (h : IsRows w n A ((l ++ k).map enc)) : IsRows w n A (l.map enc) := by
  intro j hj
  have hj' : j < ((l ++ k).map enc).length := by simp at hj ⊢; omega
  obtain ⟨ad, hA, hc⟩ := h j hj'
  refine ⟨ad, hA, fun i u hu => hc i u ?_⟩
  have e : ((l ++ k).map enc)[j] = (l.map enc)[j] := by
    simp only [List.map_append]
    rw [List.getElem_append_left]
  rw [e]; exact hu

/-- append(s, x...), one operation in a region that draws its order. -/
theorem wp_append_slice {P : Program} {w : World} {o : Oper} {a : Act} {K : Act → World → Prop} {Q : Exit → Act → World → Prop} (s x : Operand) (t : TypeId)
    (ho : o.op = .call { callee := .builtin .append, args := #[s, x], argTypes := #[t, t] })
    (base : Nat) (e : TypeId) (i : TypeInfo) (z : Value) (size bytes : Nat) (ht : P.underlying t = some (.slice e)) (hi : P.info? e = some i) (hz : i.zero = some z)
    (hsize : i.size = size) (hby : i.bytes = bytes) (hzs : z.cells.size = size) (hsz : 0 < size)
    (A : Option Addr) (n cap : Nat) (xs : List Value) (hs : a.eval s = .slice A n cap) (hown : w.ownsRow base e size (.slice A n cap) n xs)
    (X : Option Addr) (m c : Nat) (news : List Value) (hx : a.eval x = .slice X m c) (hl : Reads w size X m news) (h1 : ∀ u ∈ news, u.oneCell' = true)
    (h63 : n + m ≤ maxLen) (hbytes : (n + m) * bytes ≤ 140737488355328) (hbase : base ≤ w.heap.size)
    (h : ∀ A' cap' w', w'.ownsRow base e size (.slice A' (n + m) cap') (n + m) (xs ++ news) → w.grownBy w' (Value.slice A n cap).ownBlock → K (a.put o.dst (.slice A' (n + m) cap')) w') : o.wp P a w K Q := by
  have hle : n ≤ cap := by
    rcases hown.2 with ⟨hv, h0⟩ | ⟨g, cp, cur, hv, _, _, hc, _⟩
    · omega
    · injection hv with h1 h2 h3; omega
  by_cases hm : 0 < m
  · obtain ⟨ad, rfl, hc⟩ := hl.2 hm
    exact wp_append_lies w s x t ho base e i z size bytes ht hi hz hsize hby hzs hsz _ n xs hs hown ad m c news hx hl.1 hc h1 hm h63 hbytes hbase _ rfl fun g cap' w' h2 h3 _ _ => h _ _ _ h2 h3
  · obtain rfl : m = 0 := by omega
    have hn : news = [] := List.eq_nil_of_length_eq_zero (by have := hl.1; simpa using this)
    subst hn
    have h2 := h A cap w (by rw [List.append_nil]; exact hown) ⟨rfl, rfl, rfl, Nat.le_refl _, fun _ _ _ => rfl⟩
    have hrun := hle
    have hsrc : Src P i.size t (.slice X 0 c) 0 [] w := by
      cases X with
      | none => exact Src.ofNil w ht c
      | some ad => exact Src.ofSlice w ht ad 0 c [] (by simp) (fun j u hu => by simp at hu) (fun u hu => by cases hu)
    have hr := run_append_nothing w t t o.type e i ht hi A n cap hle (.slice X 0 c) hsrc
    unfold Oper.wp execOp
    simp only [ho, resolve, invoke, builtin, Sem.run_bind, Sem.run_pure, Result.andThen_ok, List.map_toArray, List.map_cons, List.map_nil, hs, hx, hr]
    exact h2
end Go.Proofs.YtjhjepkmcbjgoaaDoor
end

/- A library's variable holds some int. -/
section
namespace Go.Proofs.YtjhjepkmcbjgoaaDoor
open Go.RowKit
theorem cell_maxLen {W : World} (hS : W.ShapedOpen Tryd.prog) : ∃ m, W.cell? ⟨0, 0, none⟩ = some (.int .i64 m) :=
  cell_of_shapedOpen_int (zero := #[.int .i64 0]) (t := 3) hS (of_decide_eq_true (by kernel_rfl)) (by kernel_rfl) rfl (by kernel_rfl) (by kernel_rfl) Tryd.underlying3
end Go.Proofs.YtjhjepkmcbjgoaaDoor
end

/- The listed tables, as a call may lean on them. -/
section
namespace Go.Proofs.YtjhjepkmcbjgoaaDoor
open Go.RowKit

theorem extra196 : Go.Proofs.U8Extra Tryd.prog lays196_ren := {
  n3 := by kernel_rfl
  n4 := by kernel_rfl
  y3 := by kernel_rfl
  y4 := by kernel_rfl
  c5 := by kernel_rfl
  c119 := by kernel_rfl
  c138 := by kernel_rfl }
theorem first_same : Lib.firstData = Rows.laid_unicode_utf8_first := by kernel_rfl
theorem accept_same : Lib.acceptData = Rows.laid_unicode_utf8_acceptRanges := by kernel_rfl
theorem tabs_of_laid {W : World} (h : laidMetH Tryd.prog [("unicode/utf8.acceptRanges", Rows.laid_unicode_utf8_acceptRanges), ("unicode/utf8.first", Rows.laid_unicode_utf8_first)] W) : Tabs W := by
  rw [MakeChecks.laidMetH_plain _ _ _ (by kernel_rfl)] at h
  obtain ⟨ps, hps, _⟩ := h
  exact Go.Proofs.utf8Tabs_of_readsT (Go.Proofs.U8Types.of196 lays196) extra196 (by rw [first_same]; exact Lib.LaidVars_reads hps _ _ (by simp)) (by rw [accept_same]; exact Lib.LaidVars_reads hps _ _ (by simp))
theorem laid_of {W : World} (hL : laidMetH Tryd.prog [("unicode/utf8.acceptRanges", Rows.laid_unicode_utf8_acceptRanges), ("unicode/utf8.first", Rows.laid_unicode_utf8_first)] W) (hS : W.ShapedOpen Tryd.prog) : ∃ m, Laid W m := by
  obtain ⟨m, hm⟩ := cell_maxLen hS
  exact ⟨m, tabs_of_laid hL, hm⟩
end Go.Proofs.YtjhjepkmcbjgoaaDoor
end

/- What the laws of plan lean on. -/
section
namespace Go.Proofs.YtjhjepkmcbjgoaaDoor
end Go.Proofs.YtjhjepkmcbjgoaaDoor
end
