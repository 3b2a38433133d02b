/- hawserlaw09.ArchBares: a tree's fingerprints, and what is bare, are the document's. The condition: the argument's bulk (Upto). -/
import Derived.Test.YtjajoiahgfafgaaGreatDoorBArchBares14
import Derived.Test.YtjajoiahgfafgaaGreatDoorBArchBares9
import Derived.Test.YtjajoiahgfafgaaGreatDoorBArchBares7
import Derived.Lib.SmallJoins
import Derived.Test.YtjajoiahgfafgaaGreatDoorBCodeBaseC1
import Derived.ChangeArms
import Derived.Test.YtjajoiahgfafgaaGreatDoorCards
import Derived.Test.YtjajoiahgfafgaaGreatDoorTie
import Derived.Deep.DeepHandedRow
import Derived.Test.YtjajoiahgfafgaaGreatDoorShelf
import Derived.Shelf.Vars
import Derived.Test.YtjajoiahgfafgaaGreatDoorBArchBares5
import Derived.Test.YtjajoiahgfafgaaGreatDoorBArchBares6
import Derived.LaidMore
set_option linter.unusedSimpArgs false
set_option linter.unusedVariables false

/- The document's digits, IsBare, Check. -/
section
set_option linter.unusedVariables false
namespace Go.Proofs.YtjajoiahgfafgaaGreatDoor
open Go.RowKit Plain

namespace Plain
theorem dig_fin : ∀ n : Fin 256, digs.contains (UInt8.ofNat n.val) = ((decide (48 ≤ (n.val : Int)) && decide ((n.val : Int) ≤ 57)) || (decide (97 ≤ (n.val : Int)) && decide ((n.val : Int) ≤ 102))) := by decide +kernel
theorem dig_at (x : UInt8) : digs.contains x = ((decide (48 ≤ (x.toNat : Int)) && decide ((x.toNat : Int) ≤ 57)) || (decide (97 ≤ (x.toNat : Int)) && decide ((x.toNat : Int) ≤ 102))) := by
  have h := dig_fin ⟨x.toNat, x.toNat_lt⟩
  simpa using h
theorem allB_at {p : UInt8 → Bool} {l : List UInt8} {i : Nat} (h : i < l.length) : (l.drop i).all p = (p l[i] && (l.drop (i + 1)).all p) := by
  rw [List.drop_eq_getElem_cons h, List.all_cons]
theorem all_atN {α : Type} [Inhabited α] {p : α → Bool} {l : List α} {i : Nat} (h : i < l.length) : (l.drop i).all p = (p (l.getD i default) && (l.drop (i + 1)).all p) := by
  rw [List.drop_eq_getElem_cons h, List.all_cons, List.getD_eq_getElem?_getD, List.getElem?_eq_getElem h, Option.getD_some]
end Plain

set_option maxHeartbeats 2000000 in
set_option maxRecDepth 100000 in
theorem rdigits_any (s : List UInt8) (w : World) (hs : s.length ≤ 9223372036854775807) : Calls Tryz.prog 53 #[.string ⟨s.toArray⟩] w (Ret w (.bool (digitsS s))) := by
  unfold digitsS
  have HL : Hid ((s.length == 64) = ((s.length : Int) == 64)) := Lib.hid (by rw [Bool.eq_iff_iff]; simp; omega)
  rw [HL.out, Bool.and_comm]
  obtain ⟨res, hres⟩ : ∃ r, s.all (fun c => digs.contains c) = r := ⟨_, rfl⟩
  have HRES : Hid ((s.drop 0).all (fun c => digs.contains c) = res) := Lib.hid hres
  rw [hres]
  clear hres
  go_enter Tryz.func53, Tryz.ntmps53
  go_wp2_with (fail)
  go_loopw [3] (fun t3 W => ∃ i : Nat, i ≤ s.length ∧ t3 = .int .i64 i ∧ Hid ((s.drop i).all (fun c => digs.contains c) = res) ∧ W = w) (fun t3 _ => s.length - (intOf t3).toNat)
  case atStart => exact ⟨0, by omega, rfl, HRES, rfl⟩
  case round =>
    clear HRES
    obtain ⟨i, hi, rfl, HE, rfl⟩ := hrel
    have i0 : (0 : Int) ≤ i := by omega
    by_cases hlt : i < s.length
    · have i1 : (i : Int) < s.length := by omega
      have e1 : IntKind.i64.wrap ((i : Int) + 1) = (i : Int) + 1 := IntWalk.i64_in _ (by omega)
      have hat := allB_at (p := fun c => digs.contains c) hlt
      rw [HE.out] at hat
      have hg : (ByteArray.mk s.toArray)[i]'(by simpa [ByteArray.size] using hlt) = s[i] := rfl
      generalize s[i] = x at *
      obtain ⟨nx, hnx⟩ : ∃ b, (s.drop (i + 1)).all (fun c => digs.contains c) = b := ⟨_, rfl⟩
      have HNX := Lib.hid hnx
      rw [hnx, dig_at] at hat
      have HAT := Lib.hid hat
      clear hat hnx
      cases h1 : decide (48 ≤ (x.toNat : Int)) with
      | true =>
        cases h2 : decide ((x.toNat : Int) ≤ 57) with
        | true =>
          have HRF := Lib.hid (show (s.drop (i + 1)).all (fun c => digs.contains c) = res by rw [HNX.out, HAT.out, h1, h2]; simp)
          go_wp2_with (fail)
          go_roundw
          case rel => exact ⟨i + 1, by omega, by go_num, HRF, by first | trivial | rfl⟩
          case measure => simp [intOf]; omega
        | false =>
          cases h3 : decide (97 ≤ (x.toNat : Int)) with
          | true =>
            cases h4 : decide ((x.toNat : Int) ≤ 102) with
            | true =>
              have HRF := Lib.hid (show (s.drop (i + 1)).all (fun c => digs.contains c) = res by rw [HNX.out, HAT.out, h1, h2, h3, h4]; simp)
              go_wp2_with (fail)
              go_roundw
              case rel => exact ⟨i + 1, by omega, by go_num, HRF, by first | trivial | rfl⟩
              case measure => simp [intOf]; omega
            | false =>
              have HRF := Lib.hid (show res = false by rw [HAT.out, h1, h2, h3, h4]; simp)
              go_wp2_with (fail)
              go_ret
              exact ⟨by rw [HRF.out]; simp, Below.refl _ _⟩
          | false =>
            have HRF := Lib.hid (show res = false by rw [HAT.out, h1, h2, h3]; simp)
            go_wp2_with (fail)
            go_ret
            exact ⟨by rw [HRF.out]; simp, Below.refl _ _⟩
      | false =>
        cases h3 : decide (97 ≤ (x.toNat : Int)) with
        | true =>
          cases h4 : decide ((x.toNat : Int) ≤ 102) with
          | true =>
            have HRF := Lib.hid (show (s.drop (i + 1)).all (fun c => digs.contains c) = res by rw [HNX.out, HAT.out, h1, h3, h4]; simp)
            go_wp2_with (fail)
            go_roundw
            case rel => exact ⟨i + 1, by omega, by go_num, HRF, by first | trivial | rfl⟩
            case measure => simp [intOf]; omega
          | false =>
            have HRF := Lib.hid (show res = false by rw [HAT.out, h1, h3, h4]; simp)
            go_wp2_with (fail)
            go_ret
            exact ⟨by rw [HRF.out]; simp, Below.refl _ _⟩
        | false =>
          have HRF := Lib.hid (show res = false by rw [HAT.out, h1, h3]; simp)
          go_wp2_with (fail)
          go_ret
          exact ⟨by rw [HRF.out]; simp, Below.refl _ _⟩
    · obtain rfl : i = s.length := by omega
      have i1 : decide ((s.length : Int) < (s.length : Int)) = false := by rw [decide_eq_false_iff_not]; omega
      have HRF := Lib.hid (show res = true by rw [← HE.out]; simp)
      go_wp2_with (fail)
      go_ret
      exact ⟨by rw [HRF.out]; simp, Below.refl _ _⟩

set_option maxHeartbeats 2000000 in
set_option maxRecDepth 100000 in
theorem rbare_any (t : List Nd) (A : Option Addr) (c : Nat) (w : World) (hR : IsRows w 4 A (t.map ndV)) (hc : t.length ≤ c) (hlen : t.length ≤ 9223372036854775807) (hp : ∀ n ∈ t, n.path.length ≤ 8796093022200 ∧ n.data.length ≤ 9223372036854775807) :
    Calls Tryz.prog 21 #[.slice A t.length c] w (Ret w (.bool (isBareT t))) := by
  have HCK := Lib.hid (fun W (h : Below w.heap.size w W) => rcheck_any t A c W (hR.below h) hc hlen hp)
  have HR := Lib.hid (fun W (h : Below w.heap.size w W) => hR.below h)
  have HP := Lib.hid hp
  unfold isBareT
  obtain ⟨bt, hbt⟩ : ∃ r, treeOK t = r := ⟨_, rfl⟩
  rw [hbt] at HCK ⊢
  obtain ⟨res, hres⟩ : ∃ r, t.all bareN = r := ⟨_, rfl⟩
  have HRES : Hid ((t.drop 0).all bareN = res) := Lib.hid hres
  rw [hres]
  clear hres hbt hR hp
  go_enter Tryz.func21, Tryz.ntmps21
  go_wp2_with (fail)
  go_loopw [3] (fun t3 W => ∃ i : Nat, i ≤ t.length ∧ t3 = .int .i64 i ∧ Hid ((t.drop i).all bareN = res) ∧ Hid (Below w.heap.size w W)) (fun t3 _ => t.length - (intOf t3).toNat)
  case atStart => exact ⟨0, by omega, rfl, HRES, Lib.hid (Below.refl _ _)⟩
  case round =>
    clear HRES
    obtain ⟨i, hi, rfl, HE, HB⟩ := hrel
    have i0 : (0 : Int) ≤ i := by omega
    by_cases hlt : i < t.length
    · have i1 : (i : Int) < t.length := by omega
      have e1 : IntKind.i64.wrap ((i : Int) + 1) = (i : Int) + 1 := IntWalk.i64_in _ (by omega)
      have hat := all_atN (p := bareN) hlt
      rw [HE.out] at hat
      obtain ⟨ad, rfl, c0, c1, c2, c3⟩ := node_cells (HR.out _ HB.out) hlt
      have HD := Lib.hid (fun W => rdigits_any (t.getD i default).data W (HP.out _ (mem_getD hlt)).2)
      generalize t.getD i default = nd at *
      obtain ⟨p, k, d, m⟩ := nd
      simp only at c0 c1 c2 c3 HD
      unfold bareN at hat
      simp only at hat
      by_cases hk : k = 2
      · subst hk
        have HRF := Lib.hid (show (t.drop (i + 1)).all bareN = res by rw [hat]; rfl)
        clear hat HD
        go_wp2_with (fail)
        go_roundw
        case rel => exact ⟨i + 1, by omega, by go_num, HRF, HB⟩
        case measure => simp [intOf]; omega
      · have hk2 : (k == 2) = false := by simpa using hk
        rw [hk2, Bool.false_or] at hat
        have hk3 : (k != 2) = true := by simpa using hk
        have HAT := Lib.hid (show res = (digitsS d && (t.drop (i + 1)).all bareN) from hat)
        clear hat
        generalize digitsS d = b at *
        cases b with
        | false =>
          have HRF := Lib.hid (show res = false by rw [HAT.out]; rfl)
          go_wp2_with (fail)
          refine (HD.out _).mono ?_
          rintro e w1 ⟨rfl, hw1⟩
          go_wp2_with (fail)
          go_ret
          exact ⟨by rw [HRF.out]; simp, HB.out.trans (hw1.mono HB.out.size)⟩
        | true =>
          have HRF := Lib.hid (show (t.drop (i + 1)).all bareN = res by rw [HAT.out]; rfl)
          go_wp2_with (fail)
          refine (HD.out _).mono ?_
          rintro e w1 ⟨rfl, hw1⟩
          go_wp2_with (fail)
          go_roundw
          case rel => exact ⟨i + 1, by omega, by go_num, HRF, Lib.hid (HB.out.trans (hw1.mono HB.out.size))⟩
          case measure => simp [intOf]; omega
    · obtain rfl : i = t.length := by omega
      have i1 : decide ((t.length : Int) < (t.length : Int)) = false := by rw [decide_eq_false_iff_not]; omega
      have HRF := Lib.hid (show res = true by rw [← HE.out]; simp)
      cases bt with
      | true =>
        have HC : Hid (∀ W, Below w.heap.size w W → Calls Tryz.prog 48 #[.slice A t.length c] W (Ret W (.int .i64 0))) := HCK
        clear HCK
        go_wp2_with (fail)
        refine (HC.out _ HB.out).mono ?_
        rintro e w1 ⟨rfl, hw1⟩
        go_wp2_with (fail)
        go_ret
        exact ⟨by rw [HRF.out]; first | rfl | simp, HB.out.trans (hw1.mono HB.out.size)⟩
      | false =>
        have HC : Hid (∀ W, Below w.heap.size w W → Calls Tryz.prog 48 #[.slice A t.length c] W (Ret W (.int .i64 60))) := HCK
        clear HCK
        go_wp2_with (fail)
        refine (HC.out _ HB.out).mono ?_
        rintro e w1 ⟨rfl, hw1⟩
        go_wp2_with (fail)
        go_ret
        exact ⟨by rw [HRF.out]; first | rfl | simp, HB.out.trans (hw1.mono HB.out.size)⟩
end Go.Proofs.YtjajoiahgfafgaaGreatDoor
end

/- Opening of arguments: a slice of structs that is a cell of an argument; a struct of one-cell fields. -/
section
namespace Go.Proofs.YtjajoiahgfafgaaGreatDoor
open Go.ChangeShapes Go.WideShapes Go.ChangeAt Go.RowKit Go.Deep

section
variable {H : Type} {enc : TypeId × Value → H} {P : Program} {w : World} {base : Nat} {held : Bool}
theorem open_rowsT {α : Type} [Inhabited α] (El : List Value → α → Prop) (wt : α → Nat) {t e : TypeId} {fs : Array Field} {v : Value} {d : DataW H} {ps : List MemPlace} (ht : P.underlying t = some (.slice e)) (he : P.underlying e = some (.struct fs))
    (hone : oneCellFields P fs = true) (hC : P.cellsOf e = fs.size)
    (hel : ∀ (vs : List Value) (ys : List (DataW H × List MemPlace)) n, vs.length = fs.size → ys.length = fs.size → (∀ (j : Nat) (f : Field), fs[j]? = some f → ∃ v y, vs[j]? = some v ∧ ys[j]? = some y ∧ DataW.trod enc P w base (fun _ => true) held n f.type [v] = some y) →
      ∃ x, El vs x ∧ wt x ≤ Rows.uptoBulk (DataW.agg (ys.map (·.1))))
    (hd : ∃ fuel, DataW.trod enc P w base (fun _ => true) held fuel t [v] = some (d, ps)) :
    ∃ A c, ∃ (l : List α) (V : List (List Value)), v = .slice A l.length c ∧ l.length ≤ c ∧ c ≤ maxLen ∧ V.length = l.length ∧ IsRows w fs.size A V ∧ (∀ k (h : k < l.length) (h' : k < V.length), El V[k] l[k]) ∧ (l.map wt).sum ≤ Rows.uptoBulk d := by
  obtain ⟨fuel, hf⟩ := hd
  rcases open_slice ht hf with ⟨hcs, hx⟩ | ⟨a, len, cap, m, n, D, Pl, hcs, _, hl, hm, hmm, hx, hcell⟩
  · simp only [List.cons.injEq, and_true] at hcs
    subst hcs
    simp only [Prod.mk.injEq] at hx
    exact ⟨none, 0, [], [], rfl, Nat.le_refl _, Nat.zero_le _, rfl, fun k h => absurd h (by simp), by simp, by simp⟩
  · simp only [List.cons.injEq, and_true] at hcs
    subst hcs
    simp only [if_true] at hmm
    subst hmm
    simp only [Prod.mk.injEq] at hx
    obtain ⟨X, hX⟩ := choose_lt (α := List Value × α) (p := fun i x => x.1.length = fs.size ∧ (∀ j u, x.1[j]? = some u → w.cell? (a.add (i * fs.size + j)) = some u) ∧ El x.1 x.2 ∧ wt x.2 ≤ Rows.uptoBulk (D i)) (n := len) (fun i hi => by
      obtain ⟨cs', hc, ht'⟩ := hcell i (by omega)
      rw [hC] at hc
      obtain ⟨ys, n', hn', hy, hlen, hyl, hf⟩ := DataW.trod_struct he ht'
      obtain ⟨_, hcl, hat⟩ := World.cells?_some hc
      simp only [Prod.mk.injEq] at hy
      obtain ⟨x, hx1, hx2⟩ := hel cs' ys n' hcl hyl (fun j f hj => by
        obtain ⟨ho, hk⟩ := hone_of hone j f hj
        have hjl : j < fs.size := (Array.getElem?_eq_some_iff.1 hj).1
        have hv : cs'[j]? = some (cs'[j]'(by omega)) := List.getElem?_eq_getElem (by omega)
        have h1 := hf j f hj
        rw [ho, hk] at h1
        have hone' : (cs'.drop j).take 1 = [cs'[j]'(by omega)] := by
          rw [List.drop_eq_getElem_cons (by omega)]
          rfl
        rw [hone'] at h1
        have hys : ys[j]? = some (ys[j]'(by omega)) := List.getElem?_eq_getElem (by omega)
        exact ⟨_, _, hv, hys, h1.trans hys⟩)
      refine ⟨(cs', x), hcl, fun j u hu => ?_, hx1, ?_⟩
      · have hj : j < fs.size := by
          have h1 : j < cs'.length := (List.getElem?_eq_some_iff.1 hu).1
          omega
        rw [← Go.Deep.add_add, hat j hj]
        exact hu
      · rw [hy.1]; exact hx2)
    refine ⟨some a, m, (List.range len).map (fun i => (X i).2), (List.range len).map (fun i => (X i).1), by simp, by simpa using hl, hm, by simp, ?_, ?_, ?_⟩
    · intro k h
      have hk : k < len := by simpa using h
      refine ⟨a, rfl, fun j u hu => (hX k hk).2.1 j u ?_⟩
      simpa using hu
    · intro k h h'
      have hk : k < len := by simpa using h
      simpa using (hX k hk).2.2.1
    · rw [hx.1, Rows.uptoBulk, List.map_map]
      have := bulkAll_range len D (fun i => wt (X i).2) (fun i hi => (hX i hi).2.2.2)
      have e : ((List.range len).map (wt ∘ fun i => (X i).2)).sum = ((List.range len).map (fun i => wt (X i).2)).sum := rfl
      omega
/-- A struct of one-cell fields among the arguments: its cells with their readings. -/
theorem open_aggN {r : Reach} {b0 : Nat} {t : TypeId} {fs : Array Field} {v : Value} {d : DataW H} {p : List MemPlace} (hs : P.underlying t = some (.struct fs)) (hone : oneCellFields P fs = true) (hC : P.cellsOf t = fs.size)
    (hv : Value.okWide P w r b0 t v) (h : DataW.Trod enc P w base (fun _ => true) held t v d p) :
    ∃ (vs : List Value) (ys : List (DataW H × List MemPlace)) (n : Nat), v = .agg vs.toArray ∧ vs.length = fs.size ∧ ys.length = fs.size ∧ d = .agg (ys.map (·.1)) ∧
      ∀ (j : Nat) (f : Field), fs[j]? = some f → ∃ v y, vs[j]? = some v ∧ ys[j]? = some y ∧ DataW.trod enc P w base (fun _ => true) held n f.type [v] = some y := by
  obtain ⟨cs, rfl, hsz⟩ := okWide_struct hs hv
  obtain ⟨fuel, hf⟩ := h
  obtain ⟨ys, n', hn', hy, hlen, hyl, hf⟩ := DataW.trod_struct hs hf
  simp only [Prod.mk.injEq] at hy
  have hcs : (Value.agg cs).cells.toList.length = fs.size := by rw [hlen, hC]
  have hcc : (Value.agg cs).cells.toList = cs.toList := by simp [Value.cells]
  refine ⟨cs.toList, ys, n', by simp, by rw [← hcc]; exact hcs, hyl, hy.1, fun j f hj => ?_⟩
  obtain ⟨ho, hk⟩ := hone_of hone j f hj
  have hjl : j < fs.size := (Array.getElem?_eq_some_iff.1 hj).1
  have hl : cs.toList.length = fs.size := by rw [← hcc]; exact hcs
  have h1 := hf j f hj
  rw [ho, hk, hcc] at h1
  have hone' : (cs.toList.drop j).take 1 = [cs.toList[j]'(by omega)] := by
    rw [List.drop_eq_getElem_cons (by omega)]
    rfl
  rw [hone'] at h1
  have hys : ys[j]? = some (ys[j]'(by omega)) := List.getElem?_eq_getElem (by omega)
  exact ⟨_, _, List.getElem?_eq_getElem (by omega), hys, h1.trans hys⟩
end
end Go.Proofs.YtjajoiahgfafgaaGreatDoor
end

/- A cell that reads at a string's type. -/
section
namespace Go.Proofs.YtjajoiahgfafgaaGreatDoor

section
variable {H : Type} {enc : TypeId × Value → H} {P : Program} {w : World} {base : Nat} {spare : Nat → Bool} {held : Bool} {t : TypeId}
/-- A cell that reads at a string's type. -/
theorem trod_str {fuel : Nat} {c : Value} {y : DataW H × List MemPlace} (ht : P.underlying t = some .string) (h : DataW.trod enc P w base spare held fuel t [c] = some y) :
    ∃ s : List UInt8, c = .string ⟨s.toArray⟩ ∧ y = (.lit (.string s), []) ∧ s.length ≤ maxLen := by
  obtain ⟨b, hb, rfl, hl⟩ := DataW.trod_string ht h
  simp only [List.cons.injEq, and_true] at hb
  subst hb
  exact ⟨b.data.toList, by cases b; simp, rfl, by simpa only [ByteArray.size, Array.length_toList] using hl⟩
end
end Go.Proofs.YtjajoiahgfafgaaGreatDoor
end

/- The frame of a card: a world that holds the listed tables; no parameter wants a stand-in. -/
section
namespace Go.Proofs.YtjajoiahgfafgaaGreatDoor
open Go.ChangeShapes Go.WideShapes Go.ChangeAt Go.RowKit

/-- A table's cells, off its datum. -/
def lits0 : DataW Unit → List Value
  | .lit (.int k n) => [.int k n]
  | _ => []
def lits1 : DataW Unit → List Value
  | .agg ps => ps.flatMap lits0
  | d => lits0 d
def lits2 : DataW Unit → List Value
  | .agg ps => ps.flatMap lits1
  | d => lits1 d
def layAt (h : Array Obj) (g : Nat) (d : DataW Unit) : Array Obj := h.modify g fun
  | .cells _ t frozen => .cells (lits2 d).toArray t frozen
  | o => o
/-- The settled world, the tables laid. -/
noncomputable def laidWorld (os : Os) : World :=
  { World.holding Tryz.prog os ⟨#[], #[], []⟩ with heap := layAt (layAt (World.holding Tryz.prog os ⟨#[], #[], []⟩).heap 2 Rows.laid_unicode_utf8_acceptRanges) 1 Rows.laid_unicode_utf8_first }

theorem card_plain {b : Bool} {name : String} {f0 : FuncId} {fn0 : Func} (hf0 : Tryz.pinned.checked.prog.funcNamed name = some f0) (hfn0 : Tryz.pinned.checked.prog.funcs[f0]? = some fn0) (hl : Tryz.pinned.checked.prog.looks [] = b)
    (ha : (fn0.params.toList.all fun t => !Tryz.pinned.checked.prog.wantsStandIn t) = true) (f : FuncId) (fn : Func) (hf : Tryz.pinned.checked.prog.funcNamed name = some f) (hfn : Tryz.pinned.checked.prog.funcs[f]? = some fn) :
    b = Tryz.pinned.checked.prog.looks [] ∧ ∀ (j : Nat) t, fn.params[j]? = some t → Tryz.pinned.checked.prog.wantsStandIn t = false := by
  obtain rfl : f0 = f := Option.some.inj (hf0.symm.trans hf)
  obtain rfl : fn0 = fn := Option.some.inj (hfn0.symm.trans hfn)
  refine ⟨hl.symm, fun j t ht => ?_⟩
  have hm : t ∈ fn0.params.toList := by
    rw [← Array.getElem?_toList] at ht
    exact List.mem_of_getElem? ht
  have := List.all_eq_true.1 ha t hm
  simpa using this

end Go.Proofs.YtjajoiahgfafgaaGreatDoor
end

/- Opening of arguments: nodes, stamps, an archive. -/
section
namespace Go.Proofs.YtjajoiahgfafgaaGreatDoor
open Go.ChangeShapes Go.WideShapes Go.ChangeAt Go.RowKit Go.Deep Plain

def OkI (n : Int) : Prop := -9223372036854775808 ≤ n ∧ n ≤ 9223372036854775807
section
variable {H : Type} {enc : TypeId × Value → H} {w : World} {base : Nat} {held : Bool}
set_option maxRecDepth 100000 in
theorem open_nodes {v : Value} {d : DataW H} {ps : List MemPlace} (hd : ∃ fuel, DataW.trod enc Tryz.prog w base (fun _ => true) held fuel 23 [v] = some (d, ps)) :
    ∃ A c, ∃ l : List Nd, v = .slice A l.length c ∧ l.length ≤ c ∧ c ≤ maxLen ∧ IsRows w 4 A (l.map ndV) ∧ (∀ o ∈ l, (OkI o.kind ∧ OkI o.mode) ∧ o.path.length ≤ 9223372036854775807 ∧ o.data.length ≤ 9223372036854775807) ∧ (l.map fun o => o.path.length + o.data.length + 1).sum ≤ Rows.uptoBulk d := by
  obtain ⟨A, c, l, V, h1, h2, h3, h4, h5, h6, h7⟩ := open_rowsT (α := Nd) (fun vs x => vs = ndV x ∧ (OkI x.kind ∧ OkI x.mode) ∧ x.path.length ≤ 9223372036854775807 ∧ x.data.length ≤ 9223372036854775807) (fun x => x.path.length + x.data.length + 1) Tryz.underlying23 Tryz.underlying41 (by kernel_rfl) (by kernel_rfl) (fun vs ys n hv hy hf => by
    obtain ⟨v0, y0, a0, c0, t0⟩ := hf 0 _ rfl
    obtain ⟨v1, y1, a1, c1, t1⟩ := hf 1 _ rfl
    obtain ⟨v2, y2, a2, c2, t2⟩ := hf 2 _ rfl
    obtain ⟨v3, y3, a3, c3, t3⟩ := hf 3 _ rfl
    obtain ⟨m0, e0, f0, l0⟩ := trod_str Tryz.underlying9 t0
    obtain ⟨m1, e1, f1, k1⟩ := DataW.trod_int Tryz.underlying3 t1
    obtain ⟨m2, e2, f2, l2⟩ := trod_str Tryz.underlying9 t2
    obtain ⟨m3, e3, f3, k3⟩ := DataW.trod_int Tryz.underlying3 t3
    simp only [List.cons.injEq, and_true] at e1 e3
    subst e0 e1 e2 e3 f0 f2
    have l1 := bounds_i64 k1
    have l3 := bounds_i64 k3
    refine ⟨⟨m0, m1, m2, m3⟩, ⟨?_, ⟨l1, l3⟩, l0, l2⟩, ?_⟩
    · match vs, hv with
      | [b0, b1, b2, b3], _ =>
        simp at a0 a1 a2 a3
        rw [a0, a1, a2, a3]; rfl
    · match ys, hy with
      | [z0, z1, z2, z3], _ =>
        simp at c0 c2
        subst c0 c2
        simp only [List.map_cons, List.map_nil, Rows.uptoBulk, Rows.uptoBulkAll]
        omega) hd
  have hV : V = l.map ndV := List.ext_getElem (by rw [h4, List.length_map]) (fun k h h' => by rw [(h6 k (by simpa using h') h).1]; simp)
  subst hV
  refine ⟨A, c, l, h1, h2, h3, h5, fun o ho => ?_, h7⟩
  obtain ⟨k, hk, rfl⟩ := List.getElem_of_mem ho
  exact (h6 k hk (by simpa using hk)).2
set_option maxRecDepth 100000 in
theorem open_nodesW {r : Reach} {b0 : Nat} {v : Value} {d : DataW H} {ps : List MemPlace} (hval : Value.okWide Tryz.prog w r b0 23 v) (hd : DataW.Trod enc Tryz.prog w base (fun _ => true) held 23 v d ps) :
    ∃ A c, ∃ l : List Nd, v = .slice A l.length c ∧ l.length ≤ c ∧ c ≤ maxLen ∧ IsRows w 4 A (l.map ndV) ∧ (∀ o ∈ l, (OkI o.kind ∧ OkI o.mode) ∧ o.path.length ≤ 9223372036854775807 ∧ o.data.length ≤ 9223372036854775807) ∧ (l.map fun o => o.path.length + o.data.length + 1).sum ≤ Rows.uptoBulk d := by
  obtain ⟨a0, len, cap, rfl⟩ := okWide_slice Tryz.underlying23 hval
  obtain ⟨fuel, hf⟩ := hd
  exact open_nodes ⟨fuel, by simpa [Value.cells] using hf⟩
set_option maxRecDepth 100000 in
theorem open_stamps {v : Value} {d : DataW H} {ps : List MemPlace} (hd : ∃ fuel, DataW.trod enc Tryz.prog w base (fun _ => true) held fuel 24 [v] = some (d, ps)) :
    ∃ A c, ∃ l : List Stp, v = .slice A l.length c ∧ l.length ≤ c ∧ c ≤ maxLen ∧ IsRows w 3 A (l.map stV) ∧ (∀ o ∈ l, OkI o.ino ∧ OkI o.size ∧ OkI o.time) ∧ (l.map fun _ => 1).sum ≤ Rows.uptoBulk d := by
  obtain ⟨A, c, l, V, h1, h2, h3, h4, h5, h6, h7⟩ := open_rowsT (α := Stp) (fun vs x => vs = stV x ∧ OkI x.ino ∧ OkI x.size ∧ OkI x.time) (fun x => 1) Tryz.underlying24 Tryz.underlying55 (by kernel_rfl) (by kernel_rfl) (fun vs ys n hv hy hf => by
    obtain ⟨v0, y0, a0, c0, t0⟩ := hf 0 _ rfl
    obtain ⟨v1, y1, a1, c1, t1⟩ := hf 1 _ rfl
    obtain ⟨v2, y2, a2, c2, t2⟩ := hf 2 _ rfl
    obtain ⟨m0, e0, f0, k0⟩ := DataW.trod_int Tryz.underlying3 t0
    obtain ⟨m1, e1, f1, k1⟩ := DataW.trod_int Tryz.underlying3 t1
    obtain ⟨m2, e2, f2, k2⟩ := DataW.trod_int Tryz.underlying3 t2
    simp only [List.cons.injEq, and_true] at e0 e1 e2
    subst e0 e1 e2
    have l0 := bounds_i64 k0
    have l1 := bounds_i64 k1
    have l2 := bounds_i64 k2
    refine ⟨⟨m0, m1, m2⟩, ⟨?_, l0, l1, l2⟩, ?_⟩
    · match vs, hv with
      | [b0, b1, b2], _ =>
        simp at a0 a1 a2
        rw [a0, a1, a2]; rfl
    · match ys, hy with
      | [z0, z1, z2], _ =>
        simp only [List.map_cons, List.map_nil, Rows.uptoBulk, Rows.uptoBulkAll]
        omega) hd
  have hV : V = l.map stV := List.ext_getElem (by rw [h4, List.length_map]) (fun k h h' => by rw [(h6 k (by simpa using h') h).1]; simp)
  subst hV
  refine ⟨A, c, l, h1, h2, h3, h5, fun o ho => ?_, h7⟩
  obtain ⟨k, hk, rfl⟩ := List.getElem_of_mem ho
  exact (h6 k hk (by simpa using hk)).2
set_option maxRecDepth 100000 in
theorem open_arc {r : Reach} {b0 : Nat} {v : Value} {d : DataW H} {ps : List MemPlace} (hval : Value.okWide Tryz.prog w r b0 26 v) (hd : DataW.Trod enc Tryz.prog w base (fun _ => true) held 26 v d ps) :
    ∃ a A c B e, v = .agg (arV a A c B e).toArray ∧ ArAt a A c B e w ∧ Small a ∧ a.pair.length + (a.tree.map fun o => o.path.length + o.data.length + 1).sum ≤ Rows.uptoBulk d := by
  obtain ⟨vs, ys, n, rfl, hv, hy, rfl, hf⟩ := open_aggN Tryz.underlying26 (by kernel_rfl) (by kernel_rfl) hval hd
  obtain ⟨v0, y0, a0, b0, t0⟩ := hf 0 _ rfl
  obtain ⟨v1, y1, a1, b1, t1⟩ := hf 1 _ rfl
  obtain ⟨v2, y2, a2, b2, t2⟩ := hf 2 _ rfl
  obtain ⟨v3, y3, a3, b3, t3⟩ := hf 3 _ rfl
  obtain ⟨m0, e0, f0, l0⟩ := trod_str Tryz.underlying9 t0
  obtain ⟨m1, e1, f1, k1⟩ := DataW.trod_int Tryz.underlying3 t1
  obtain ⟨A, c, t, e2, hc, hm, hr, hk, hw⟩ := open_nodes (d := y2.1) (ps := y2.2) ⟨n, t2⟩
  obtain ⟨B, dd, s, e3, hc3, hm3, hr3, hk3, hw3⟩ := open_stamps (d := y3.1) (ps := y3.2) ⟨n, t3⟩
  simp only [List.cons.injEq, and_true] at e1
  have l1 := bounds_i64 k1
  subst e0 e1 e2 e3
  unfold maxLen at hm hm3
  refine ⟨⟨m0, m1, t, s⟩, A, c, B, dd, ?_, ⟨hr, hr3, hc, hc3, Nat.le_trans hc hm, Nat.le_trans hc3 hm3, fun n hn => (hk n hn).2, l0⟩, ⟨by show m1 < _; omega, fun x hx => ?_⟩, ?_⟩
  · match vs, hv with
    | [q0, q1, q2, q3], _ =>
      simp at a0 a1 a2 a3
      rw [a0, a1, a2, a3]; rfl
  · have := hk3 x hx
    unfold OkI at this
    omega
  · match ys, hy with
    | [z0, z1, z2, z3], _ =>
      simp at b0 b2
      subst b0 b2
      subst f0
      simp only [List.map_cons, List.map_nil, Rows.uptoBulk, Rows.uptoBulkAll]
      omega
end
end Go.Proofs.YtjajoiahgfafgaaGreatDoor
end

/- A library's variable holds some int. -/
section
namespace Go.Proofs.YtjajoiahgfafgaaGreatDoor
open Go.RowKit
theorem cell_maxLen {W : World} (hS : W.ShapedOpen Tryz.prog) : ∃ m, W.cell? ⟨0, 0, none⟩ = some (.int .i64 m) :=
  cell_of_shapedOpen_int (zero := #[.int .i64 0]) (t := 3) hS (of_decide_eq_true (by kernel_rfl)) (by kernel_rfl) rfl (by kernel_rfl) (by kernel_rfl) Tryz.underlying3
end Go.Proofs.YtjajoiahgfafgaaGreatDoor
end

/- The listed tables, as a call may lean on them. -/
section
namespace Go.Proofs.YtjajoiahgfafgaaGreatDoor
open Go.RowKit

theorem extra196 : Go.Proofs.U8Extra Tryz.prog lays196_ren := {
  n3 := by kernel_rfl
  n4 := by kernel_rfl
  y3 := by kernel_rfl
  y4 := by kernel_rfl
  c5 := by kernel_rfl
  c119 := by kernel_rfl
  c138 := by kernel_rfl }
theorem first_same : Lib.firstData = Rows.laid_unicode_utf8_first := by kernel_rfl
theorem accept_same : Lib.acceptData = Rows.laid_unicode_utf8_acceptRanges := by kernel_rfl
theorem tabs_of_laid {W : World} (h : laidMetH Tryz.prog [("unicode/utf8.acceptRanges", Rows.laid_unicode_utf8_acceptRanges), ("unicode/utf8.first", Rows.laid_unicode_utf8_first)] W) : Tabs W := by
  rw [MakeChecks.laidMetH_plain _ _ _ (by kernel_rfl)] at h
  obtain ⟨ps, hps, _⟩ := h
  exact Go.Proofs.utf8Tabs_of_readsT (Go.Proofs.U8Types.of196 lays196) extra196 (by rw [first_same]; exact Lib.LaidVars_reads hps _ _ (by simp)) (by rw [accept_same]; exact Lib.LaidVars_reads hps _ _ (by simp))
theorem laid_of {W : World} (hL : laidMetH Tryz.prog [("unicode/utf8.acceptRanges", Rows.laid_unicode_utf8_acceptRanges), ("unicode/utf8.first", Rows.laid_unicode_utf8_first)] W) (hS : W.ShapedOpen Tryz.prog) : ∃ m, Laid W m := by
  obtain ⟨m, hm⟩ := cell_maxLen hS
  exact ⟨m, tabs_of_laid hL, hm⟩
end Go.Proofs.YtjajoiahgfafgaaGreatDoor
end

section
set_option linter.unusedVariables false
namespace Go.Proofs.YtjajoiahgfafgaaGreatDoor
open Go.RowKit Plain

namespace Plain
theorem bareOf_path (x : Nd) : (bareOf x).path = x.path := by unfold bareOf; split <;> rfl
theorem bareOf_kind (x : Nd) : (bareOf x).kind = x.kind := by unfold bareOf; split <;> rfl
theorem bareOf_default : bareOf default = ⟨[], 0, hex (sha []), 0⟩ := rfl
theorem digs_getD {i : Nat} (h : i < 16) : digs.contains (digs.getD i 0) = true ∧ digs.getD i 0 ≠ 0 := by
  have : ∀ i : Fin 16, digs.contains (digs.getD i.val 0) = true ∧ digs.getD i.val 0 ≠ 0 := by decide
  exact this ⟨i, h⟩
theorem hex_digs (l : List UInt8) : ∀ c ∈ hex l, digs.contains c = true ∧ c ≠ 0 := by
  intro c hc
  unfold hex at hc
  obtain ⟨b, hb, hc⟩ := List.mem_flatMap.1 hc
  unfold hexB at hc
  have hb2 := b.toNat_lt
  simp only [List.mem_cons, List.not_mem_nil, or_false] at hc
  rcases hc with rfl | rfl
  · exact digs_getD (by omega)
  · exact digs_getD (by omega)
theorem hex_sha_length (s : List UInt8) : (hex (sha s)).length = 64 := by rw [hex_length, sha_length]
theorem digitsS_hex (s : List UInt8) : digitsS (hex (sha s)) = true := by
  unfold digitsS
  rw [Bool.and_eq_true, beq_iff_eq, List.all_eq_true]
  exact ⟨hex_sha_length s, fun c hc => (hex_digs _ c hc).1⟩
theorem bareN_bareOf (x : Nd) : bareN (bareOf x) = true := by
  unfold bareN
  rw [bareOf_kind, Bool.or_eq_true]
  by_cases h : (x.kind == 2) = true
  · exact .inl h
  · right
    unfold bareOf
    rw [if_neg h]
    exact digitsS_hex _
theorem right_bareOf {x : Nd} (h : rightN x = true) : rightN (bareOf x) = true := by
  by_cases h2 : x.kind = 2
  · have : bareOf x = x := by unfold bareOf; rw [if_pos (by simpa using h2)]
    rw [this]; exact h
  · have e : bareOf x = { x with data := hex (sha x.data) } := by unfold bareOf; rw [if_neg (by simpa using h2)]
    have hl := hex_sha_length x.data
    rw [e]
    unfold rightN at h ⊢
    simp only
    by_cases h1 : x.kind = 1
    · rw [if_pos h1] at h ⊢
      simp only [Bool.and_eq_true, decide_eq_true_eq] at h ⊢
      exact ⟨⟨by omega, h.1.2⟩, h.2⟩
    · rw [if_neg h1, if_neg h2] at h ⊢
      by_cases h3 : x.kind = 3
      · rw [if_pos h3] at h ⊢
        simp only [Bool.and_eq_true] at h ⊢
        refine ⟨⟨⟨?_, ?_⟩, ?_⟩, h.2⟩
        · cases hh : hex (sha x.data) with
          | nil => rw [hh] at hl; simp at hl
          | cons a r => rfl
        · rw [decide_eq_true_eq]; omega
        · rw [Bool.not_eq_true', ← Bool.not_eq_true, List.contains_iff_mem]
          intro hm
          exact (hex_digs _ 0 hm).2 rfl
      · rw [if_neg h3] at h; cases h
theorem findN_bare (t : List Nd) (s : List UInt8) : findN (t.map bareOf) s = (findN t s).map bareOf := by
  unfold findN
  rw [List.find?_map]
  congr 1
  congr 1
  funext x
  simp [bareOf_path]
theorem dirN_bare (t : List Nd) (s : List UInt8) : dirN (t.map bareOf) s = dirN t s := by
  unfold dirN
  rw [findN_bare]
  cases findN t s with
  | none => rfl
  | some n => simp [bareOf_kind]
theorem getD_path (t : List Nd) (i : Nat) : ((t.map bareOf).getD i default).path = (t.getD i default).path := by
  rw [List.getD_eq_getElem?_getD, List.getD_eq_getElem?_getD, List.getElem?_map]
  cases t[i]? with
  | none => rfl
  | some n => exact bareOf_path n
theorem before_bare (t : List Nd) (i : Nat) : beforeN (t.map bareOf) i = beforeN t i := by
  cases i with
  | zero => rfl
  | succ k => unfold beforeN; simp only [getD_path]
theorem treeOK_bare {t : List Nd} (h : treeOK t = true) : treeOK (t.map bareOf) = true := by
  unfold treeOK at h ⊢
  simp only [Bool.and_eq_true, decide_eq_true_eq, List.length_map, List.all_eq_true, List.mem_range] at h ⊢
  refine ⟨h.1, fun i hi => ?_⟩
  have h2 := h.2 i hi
  unfold nodeOK at h2 ⊢
  simp only [Bool.and_eq_true] at h2 ⊢
  rw [getD_path, before_bare, dirN_bare]
  refine ⟨⟨⟨h2.1.1.1, ?_⟩, h2.1.2⟩, h2.2⟩
  have e : (t.map bareOf).getD i default = bareOf (t.getD i default) := by
    rw [List.getD_eq_getElem?_getD, List.getD_eq_getElem?_getD, List.getElem?_map, List.getElem?_eq_getElem hi]; rfl
  rw [e]
  exact right_bareOf h2.1.1.2
theorem bareP_bare (t : List Nd) : isBareT (bareP t).1 = true := by
  unfold bareP
  split
  · rename_i h
    unfold isBareT
    rw [Bool.and_eq_true]
    refine ⟨treeOK_bare h, ?_⟩
    rw [List.all_eq_true]
    intro x hx
    obtain ⟨y, -, rfl⟩ := List.mem_map.1 hx
    exact bareN_bareOf y
  · rfl
def minD (t : List Nd) : Nat := (t.map (fun n => min n.data.length 2001)).sum
theorem minD_next {t : List Nd} {i : Nat} (h : i < t.length) : minD (t.take (i + 1)) = minD (t.take i) + min t[i].data.length 2001 := by
  unfold minD
  rw [List.take_succ_eq_append_getElem h, List.map_append, List.sum_append]; simp
theorem minD_le (t : List Nd) : minD t ≤ t.length * 2001 := by
  unfold minD
  induction t with
  | nil => simp
  | cons x r ih => simp only [List.map_cons, List.sum_cons, List.length_cons]; omega
theorem minD_mem {t : List Nd} (h : minD t ≤ 2000) : ∀ n ∈ t, n.data.length ≤ 2000 := by
  unfold minD at h
  induction t with
  | nil => intro n hn; cases hn
  | cons x r ih =>
    simp only [List.map_cons, List.sum_cons] at h
    intro n hn
    rcases List.mem_cons.1 hn with rfl | hn
    · omega
    · exact ih (by omega) n hn
end Plain
theorem sum_memB {α : Type} (l : List α) (f : α → Nat) : ∀ x ∈ l, f x ≤ (l.map f).sum := by
  induction l with
  | nil => intro x hx; cases hx
  | cons y l ih =>
    intro x hx
    simp only [List.map_cons, List.sum_cons]
    rcases List.mem_cons.1 hx with rfl | hx
    · omega
    · have := ih x hx; omega

set_option maxHeartbeats 8000000 in
set_option maxRecDepth 100000 in
theorem ArchBares_any (t : List Nd) (A : Option Addr) (c : Nat) (m : Int) (w : World) (hL : Laid w m) (hA : IsRows w 4 A (t.map ndV)) (hc : t.length ≤ c) (hlt : t.length ≤ 1048576) (hpt : ∀ n ∈ t, n.path.length ≤ 1048576 ∧ n.data.length ≤ 1048576) :
    Calls Tryz.prog 5 #[.slice A t.length c] w (Ret w (.bool true)) := by
  obtain ⟨it0, hi1, hy0, hy1, hy2⟩ := info_parts info_nodeA
  have HIN := Lib.hid hi1
  have HAW := Lib.hid (fun W (h : Below w.heap.size w W) => aawake_any m W (hL.below h))
  have HBT := Lib.hid (fun A' c' W (h : Below w.heap.size w W) (hr : IsRows W 4 A' (t.map ndV)) (hc : t.length ≤ c') => bare_any t A' c' m W (hL.below h) hr hc (by omega) (fun n hn => by have := hpt n hn; omega))
  have HBR := Lib.hid (fun W (h : Below w.heap.size w W) => rBare_any t A c W (hA.below h) hc hlt hpt)
  have HI1 := Lib.hid (fun W (h : Below w.heap.size w W) => isBare_any t A c m W (hL.below h) (hA.below h) hc (by omega) (fun n hn => by have := hpt n hn; omega))
  have HI2 := Lib.hid (fun W (h : Below w.heap.size w W) => rbare_any t A c W (hA.below h) hc (by omega) (fun n hn => by have := hpt n hn; omega))
  have hbl : (bareP t).1.length ≤ 1048576 := by unfold bareP; split <;> simp <;> omega
  have hbd : ∀ n ∈ (bareP t).1, n.path.length ≤ 1048576 ∧ n.data.length ≤ 1048576 := by
    unfold bareP
    split
    · intro n hn
      obtain ⟨y, hy, rfl⟩ := List.mem_map.1 hn
      have := hpt y hy
      rw [bareOf_path]
      refine ⟨this.1, ?_⟩
      unfold bareOf
      split
      · exact this.2
      · show (hex (sha y.data)).length ≤ _
        rw [hex_sha_length]; omega
    · intro n hn; cases hn
  have HI3 := Lib.hid (fun A' c' W (h : Below w.heap.size w W) (hr : IsRows W 4 A' ((bareP t).1.map ndV)) (hc : (bareP t).1.length ≤ c') => bareP_bare t ▸ isBare_any (bareP t).1 A' c' m W (hL.below h) hr hc (by omega) (fun n hn => by have := hbd n hn; omega))
  have HS1 := Lib.hid (fun A1 c1 A2 c2 W (h1 : IsRows W 4 A1 ((bareP t).1.map ndV)) (h2 : IsRows W 4 A2 ((bareP t).1.map ndV)) => beq_self_eq_true (bareP t).1 ▸ rsame_any (bareP t).1 (bareP t).1 A1 A2 c1 c2 W h1 h2 (by omega) (by omega))
  have HS2 := Lib.hid (fun A1 c1 W (h1 : IsRows W 4 A1 (t.map ndV)) (h : Below w.heap.size w W) => beq_self_eq_true t ▸ rsame_any t t A1 A c1 c W h1 (hA.below h) (by omega) (by omega))
  have HRT := Lib.hid (fun W (h : Below w.heap.size w W) => hA.below h)
  have HRR := Lib.hid (fun W (h : Below w.heap.size w W) => rows_readsA (by decide) ndV_length (hA.below h))
  have HML := Lib.hid (minD_le t)
  clear hL hA hpt hi1 hbd
  generalize isBareT t = ib at *
  have HE : Hid ((bareP t).2 = 0 ∨ (bareP t).2 = 60) := Lib.hid (by unfold bareP; split <;> simp)
  generalize (bareP t).2 = er at *
  unfold BareOut at HBT HBR
  go_enter Tryz.func5, Tryz.ntmps5
  go_wp2_with (fail)
  refine (HAW.out _ (Below.refl _ _)).mono ?_
  rintro e w1 ⟨rfl, hw1⟩
  have HB1 := Lib.hid hw1
  clear hw1
  go_wp2_with (fail)
  go_loopw [3, 14] (fun t3 t14 W => ∃ i : Nat, i ≤ t.length ∧ t14 = .int .i64 i ∧ t3 = .int .i64 (minD (t.take i) : Nat) ∧ Hid (Below w.heap.size w W)) (fun _ t14 _ => t.length - (intOf t14).toNat)
  case atStart => exact ⟨0, by omega, rfl, rfl, HB1⟩
  case round =>
    obtain ⟨i, hi, rfl, rfl, HB⟩ := hrel
    have i0' : (0 : Int) ≤ i := by omega
    by_cases hlt2 : i < t.length
    · have i1 : (i : Int) < t.length := by omega
      have e1 : IntKind.i64.wrap ((i : Int) + 1) = (i : Int) + 1 := IntWalk.i64_in _ (by omega)
      obtain ⟨ad, rfl, c0, c1, c2, c3⟩ := node_cells (HRT.out _ HB.out) hlt2
      have hgd : t.getD i default = t[i] := by rw [List.getD_eq_getElem?_getD, List.getElem?_eq_getElem hlt2, Option.getD_some]
      rw [hgd] at c0 c1 c2 c3
      have HNX := Lib.hid (minD_next hlt2)
      have hle := minD_le (t.take i)
      rw [List.length_take] at hle
      have hmn : min ((t[i].data.length : Int)) 2001 = ((min t[i].data.length 2001 : Nat) : Int) := by omega
      have hm2 : min t[i].data.length 2001 ≤ 2001 := by omega
      have hle2 : minD (t.take i) ≤ 1048576 * 2001 := by
        have : min i t.length * 2001 ≤ 1048576 * 2001 := Nat.mul_le_mul_right _ (by omega)
        omega
      generalize min t[i].data.length 2001 = dm at *
      generalize minD (t.take i) = sm at *
      have e2 : IntKind.i64.wrap ((sm : Int) + (dm : Int)) = ((sm + dm : Nat) : Int) := by rw [IntWalk.i64_in _ (by omega)]; omega
      clear hle hgd c0 c1 c3
      go_wp2_with (fail)
      go_roundw
      case rel => exact ⟨i + 1, by omega, by go_num, by rw [HNX.out]; go_num, HB⟩
      case measure => simp [intOf]; omega
    · obtain rfl : i = t.length := by omega
      have i1 : ¬ (t.length : Int) < t.length := by omega
      rw [List.take_of_length_le (Nat.le_refl _)]
      have hml : minD t ≤ 1048576 * 2001 := by
        have : t.length * 2001 ≤ 1048576 * 2001 := Nat.mul_le_mul_right _ (by omega)
        have := HML.out; omega
      generalize minD t = sm at *
      by_cases hbig : 2000 < sm
      · have hb2 : (2000 : Int) < (sm : Int) := by omega
        go_wp2_with (fail)
        go_ret
        exact ⟨rfl, HB.out⟩
      · have hb2 : ¬ (2000 : Int) < (sm : Int) := by omega
        go_wp2_with (at_builtin; refine wpList_append_slice rfl _ _ 23 rfl wr.heap.size 41 it0 _ 4 48 Tryz.underlying23 HIN.out hy0 hy1 hy2 rfl (by decide) (some ⟨wr.heap.size, 0, none⟩) 0 0 [] rfl (empty_ownA wr 41 4) A t.length c (rowsE ndV t) rfl (HRR.out _ (HB.out.alloc HB.out.size _)) (rowsE_oneCell ndV_oneCell t) ?c3 ?c4 ?c5 ?_)
        case c3 => unfold maxLen; omega
        case c4 => omega
        intro A5 c5 w5 hown5 hg5
        have hb5 : Below w.heap.size w w5 := (HB.out.alloc HB.out.size _).grown hg5 (by have := HB.out.size; simp; omega) (fun k hk => by
          have hk' : wr.heap.size = k := by injection hk
          have := HB.out.size
          omega)
        try simp only [Nat.zero_add, List.nil_append] at hown5
        obtain ⟨A9, c9, hv5, hc5, -, -⟩ := IsSlice.of_own hown5
        injection hv5 with hv5a _ hv5c
        subst hv5a hv5c
        have HIN5 := Lib.hid (own_rowsA ndV_length hown5 rfl)
        have HB5 := Lib.hid hb5
        have HC5 := Lib.hid hc5
        clear hown5 hg5 hb5 HB hc5 HRR HRT
        go_wp2_with (fail)
        refine (HBT.out A5 c5 w5 HB5.out HIN5.out HC5.out).mono ?_
        rintro e w6 ⟨A6, c6, rfl, h6c, h6r, h6b⟩
        have HB6 := Lib.hid (HB5.out.trans (h6b.mono HB5.out.size))
        have HIN6 := Lib.hid (HIN5.out.below h6b)
        have HR6 := Lib.hid h6r
        have HC6 := Lib.hid h6c
        clear h6b h6r h6c HIN5 HBT
        go_wp2_with (fail)
        refine (HBR.out w6 HB6.out).mono ?_
        rintro e w7 ⟨A7, c7, rfl, h7c, h7r, h7b⟩
        have HB7 := Lib.hid (HB6.out.trans (h7b.mono HB6.out.size))
        have HIN7 := Lib.hid (HIN6.out.below h7b)
        have HRA7 := Lib.hid (HR6.out.below h7b)
        have HRB7 := Lib.hid h7r
        clear h7b h7r h7c HIN6 HR6 HBR
        go_wp2_with (fail)
        refine (HS1.out A6 c6 A7 c7 w7 HRA7.out HRB7.out).mono ?_
        rintro e w8 ⟨rfl, hw8⟩
        have HB8 := Lib.hid (HB7.out.trans (hw8.mono HB7.out.size))
        have HIN8 := Lib.hid (HIN7.out.below hw8)
        have HR8 := Lib.hid (HRA7.out.below hw8)
        clear hw8 HIN7 HRA7 HRB7 HS1
        go_wp2_with (fail)
        refine (HI1.out w8 HB8.out).mono ?_
        rintro e w9 ⟨rfl, hw9⟩
        have HB9 := Lib.hid (HB8.out.trans (hw9.mono HB8.out.size))
        have HIN9 := Lib.hid (HIN8.out.below hw9)
        have HR9 := Lib.hid (HR8.out.below hw9)
        clear hw9 HIN8 HR8 HI1
        go_wp2_with (fail)
        refine (HI2.out w9 HB9.out).mono ?_
        rintro e w10 ⟨rfl, hw10⟩
        have HB10 := Lib.hid (HB9.out.trans (hw10.mono HB9.out.size))
        have HIN10 := Lib.hid (HIN9.out.below hw10)
        have HR10 := Lib.hid (HR9.out.below hw10)
        clear hw10 HIN9 HR9 HI2
        go_wp2_with (fail)
        refine (HI3.out A6 c6 w10 HB10.out HR10.out HC6.out).mono ?_
        rintro e w11 ⟨rfl, hw11⟩
        have HB11 := Lib.hid (HB10.out.trans (hw11.mono HB10.out.size))
        have HIN11 := Lib.hid (HIN10.out.below hw11)
        clear hw11 HIN10 HR10 HI3
        go_wp2_with (fail)
        refine (HS2.out A5 c5 w11 HIN11.out HB11.out).mono ?_
        rintro e w12 ⟨rfl, hw12⟩
        have HB12 := Lib.hid (HB11.out.trans (hw12.mono HB11.out.size))
        clear hw12
        go_wp2_with (fail)
        go_ret
        exact ⟨rfl, HB12.out⟩

open Go.ChangeShapes Go.WideShapes Go.ChangeAt in
set_option maxRecDepth 100000 in
/-- What the walk gives, for every argument. -/
theorem ArchBares_contract (H : Type) (enc : TypeId × Value → H) (W : World) (base : Nat) (args : Array Value) (ds gs : List (DataW H)) (before : List MemPlace)
    (hval : ∀ (j : Nat) t v, Tryz.f5.params[j]? = some t → args[j]? = some v → Value.okWide Tryz.prog W .any base t v)
    (hW : DataW.Whole enc Tryz.prog Tryz.f5.params.toList Rows.archBaresSpec.vars false W args.toList ds gs before) (hL : laidMetH Tryz.prog Rows.archBaresRow.laid W) (hS : W.ShapedOpen Tryz.prog) (hk : Rows.uptoSmall H (ds ++ gs) = true) :
    Calls Tryz.prog 5 args W fun e W' => ∃ v, e = .returned v ∧ Rows.archBaresSpec.post enc Tryz.prog Tryz.f5 false true false false W args v W' := by
  have hW' := hW
  obtain ⟨p, q, hA0, hV, rfl, hfz, hnd⟩ := hW
  have hA : DataW.TrodAll enc Tryz.prog W 0 (fun _ => true) true Tryz.f5.params.toList args.toList ds p := hA0
  rw [Tryz.params5] at hA hval
  obtain ⟨v0, vs0, d0, ds0, p0, q0, hargs, rfl, rfl, h0, r0⟩ := trodAll_cons hA
  obtain ⟨rfl, rfl, rfl⟩ := trodAll_nil r0
  obtain rfl : args = #[v0] := by cases args; simp_all
  obtain ⟨rfl, rfl⟩ := trodVars_none hV
  obtain ⟨A0, c0, x0, rfl, hc0, hm0, ks0, kd0, kw0⟩ := open_nodesW (hval 0 23 v0 rfl rfl) h0
  unfold maxLen at hm0
  clear hA0
  have hbulk := bulk_bound hk
  simp only [List.cons_append, List.nil_append, List.append_nil, Rows.uptoBulkAll] at hbulk
  obtain ⟨m, hm⟩ := laid_of hL hS
  have hsl := sum_ge x0 (fun o => o.path.length + o.data.length + 1) (by simp)
  refine (ArchBares_any x0 A0 c0 m W hm ks0 hc0 (by omega) (fun x hx => ?_)).mono ?_
  · have := sum_memB x0 (fun o => o.path.length + o.data.length + 1) x hx
    omega
  exact fun e W' ⟨he, hb⟩ => ⟨_, he, law_post rfl hW' rfl (by kernel_rfl) Tryz.underlying4 (by kernel_rfl) laidOut hb⟩

open Go.ChangeShapes Go.WideShapes Go.ChangeAt in
theorem ArchBares_met (os : Os) : laidMet Tryz.prog Rows.archBaresUptoRow.laid ((laidWorld os).forCall (fun _ _ => 0) ⟨#[], #[.slice none 0 0], []⟩).memory :=
  laidMet_of_run' 8 (by kernel_rfl) (by kernel_rfl)
open Go.ChangeShapes Go.WideShapes Go.ChangeAt in
theorem ArchBares_reads (os : Os) {H : Type} (enc : TypeId × Value → H) : ∃ places, DataW.whole enc Tryz.prog ((laidWorld os).forCall (fun _ _ => 0) ⟨#[], #[.slice none 0 0], []⟩).memory Tryz.f5.params.toList Rows.archBaresSpec.vars false #[.slice none 0 0].toList 8 = some ([.nil], [], places) :=
  ⟨[], by kernel_rfl⟩

open Go.ChangeShapes Go.WideShapes Go.ChangeAt in
set_option maxRecDepth 100000 in
theorem ArchBares_lifted (os : Os) (started : os.Started) (H : Type) (enc : TypeId × Value → H) (F : Stop.Interp) :
    ReturnsInHanded {} Tryz.checked os 5 .any ((Rows.OpenSpec.upto Rows.archBaresSpec).preRow enc Tryz.prog Tryz.f5 Rows.archBaresUptoRow.domain false Rows.archBaresUptoRow.laid) (((Rows.OpenSpec.upto Rows.archBaresSpec).at F).post enc Tryz.prog Tryz.f5 false true false false) := by
  obtain ⟨places, hx⟩ := ArchBares_reads os enc
  refine returnsInHanded_of_row (C := Tryz.checked) (s := Rows.OpenSpec.upto Rows.archBaresSpec) own started (by kernel_rfl) Tryz.func5
    (witness_row_at (enc := enc) (C := Tryz.checked) false (laidWorld os) #[.slice none 0 0] rfl (by kernel_rfl) (by kernel_rfl) (by kernel_rfl)
      (OpenSpec.preRow_of_cond 8 hx (by kernel_rfl) (fun k hk => by cases hk; kernel_rfl) (by kernel_rfl) (ArchBares_met os))) ?_
  intro W base args ds gs before hval hW _ hcond _ hL hS _
  exact ArchBares_contract H enc W base args ds gs before hval hW hL hS (hcond _ rfl)

theorem ArchBares_said : Rows.ArchBaresUptoSaid :=
  OpenClaim.holds_of_cond 5 Tryz.f5 rfl rfl rfl rfl rfl rfl rfl ⟨rfl, rfl, rfl, rfl, rfl⟩ rfl rfl rfl rfl rfl (by kernel_rfl) Tryz.func5 (by kernel_rfl)
    (of_decide_eq_true (by kernel_rfl)) (by unfold Func.isWrapper; first | (rw [if_pos (by decide +kernel)]; kernel_rfl) | (rw [if_neg (by decide +kernel)]; exact ⟨rfl, rfl⟩))
    (fun os started H enc _ F => by rw [OpenClaim.pre_eq_preRow]; exact ArchBares_lifted os started H enc F)

theorem ArchBares_holds : Rows.ArchBaresUptoCardSaid :=
  Claim7.holds_tied_plain_at .later [] _ _ _ _ ArchBares_said (fun _ h => by cases h) (by kernel_rfl) (fun _ h => by cases h) archBaresUpto_row_tie rfl ⟨rfl, rfl⟩ (by kernel_rfl) rfl
    (card_plain (f0 := 5) (fn0 := Tryz.f5) (by kernel_rfl) Tryz.func5 (by kernel_rfl) (by kernel_rfl)) (by kernel_rfl)
end Go.Proofs.YtjajoiahgfafgaaGreatDoor
end
