/- Texts joined: Glob5, Glob6, AnyIdx, Name, SplitSeq, RangeLaw. -/
import Derived.Test.YtgppfcaghjbjmaaGreatDoorBGlobLBase2
import Derived.Test.YtgppfcaghjbjmaaGreatDoorBLitBase1
import Derived.DeepKeys4
import Derived.Test.YtgppfcaghjbjmaaGreatDoorShelf
import Derived.Laws.Runes
import Derived.Laws.RangeAny
import Derived.Lib.Builder
import Derived.WalkMore
import Derived.Deep.QuietTactic
import Derived.BigQuiet
import Derived.Test.YtgppfcaghjbjmaaGreatDoorBLitBase3
import Derived.Lib.IndexAny
import Derived.Lib.OthersKept
import Derived.Test.YtgppfcaghjbjmaaGreatDoorBGlobLBase1
import Derived.RangeFuncNested
import Derived.RangeFuncBound
import Derived.RangeFuncCalls
import Derived.RangeFuncLeaves
import Derived.Shelf.Abstract
import Derived.Shelf.RegionOpen
import Derived.WalkKit
import Derived.OwnWalkIn
import Derived.TacticsInMore
import Derived.LoopNIn
import Derived.LoopIn
import Derived.RangeFuncKeeps
set_option linter.unusedSimpArgs false
set_option linter.unusedVariables false

/- glob.parts: the closure that remembers which pairs do not match. -/
section
namespace Go.Proofs.YtgppfcaghjbjmaaGreatDoor
open Go.RowKit Go.Maps Plain

theorem laidOut5 : laidOutB Tryz.prog = true := by kernel_rfl
theorem row2 : 67 < Tryz.prog.types.size := by decide +kernel
theorem keyed2 : Keyed Tryz.prog 67 := Keyed.of_law (deep_law_laid laidOut5 (m := 2) (by omega) row2 (by kernel_rfl) (by kernel_rfl))
def pairV (i j : Nat) : Value := .agg #[.int .i64 i, .int .i64 j]
theorem pairV_inj {i j i' j' : Nat} (h : pairV i j = pairV i' j') : i = i' ∧ j = j' := by
  unfold pairV at h
  simp at h
  omega
theorem pair_formed (i j : Nat) : (pairV i j).formed Tryz.prog 67 = true := by
  unfold pairV Value.formed
  simp only [Tryz.underlying67]
  kernel_rfl
theorem pair_type : Tryz.prog.keyType 67 = true := by kernel_rfl
theorem pair_key (i j : Nat) (hi : i ≤ 4294967296) (hj : j ≤ 4294967296) : ∃ l, keyOf Tryz.prog 67 (pairV i j) = some l := by
  unfold keyOf
  simp only [Tryz.underlying67]
  rw [if_pos (by rw [pair_type, pair_formed]; rfl)]
  have : (Tryz.prog.keyLits (Tryz.prog.types.size + 1) 67 (pairV i j).cells.toList).isSome = true := by
    obtain ⟨d, hd⟩ : ∃ d, Tryz.prog.types.size + 1 = d + 1 + 1 := ⟨Tryz.prog.types.size - 1, by have := row2; omega⟩
    rw [hd]
    have hc2 : Tryz.prog.cellsOf 67 = 2 := by kernel_rfl
    have hc1 : Tryz.prog.cellsOf 3 = 1 := by kernel_rfl
    have hw : ∀ n : Nat, n ≤ 4294967296 → (Lit.int .i64 (n : Int)).wf = true := fun n hn => by
      unfold Lit.wf
      rw [Bool.and_eq_true, decide_eq_true_eq, decide_eq_true_eq]
      exact ⟨by show (-9223372036854775808 : Int) ≤ n; omega, by show (n : Int) ≤ 9223372036854775807; omega⟩
    have h1 : ∀ n : Nat, n ≤ 4294967296 → Tryz.prog.keyLits (d + 1) 3 [.int .i64 (n : Int)] = some [.int .i64 (n : Int)] := fun n hn => by
      unfold Program.keyLits
      simp only [Tryz.underlying3]
      rw [if_pos ⟨trivial, hw n hn⟩]
    unfold Program.keyLits
    simp only [Tryz.underlying67, hc2, hc1]
    simp [pairV, Value.cells, List.range_succ, h1 i hi, h1 j hj]
  obtain ⟨l, hl⟩ := Option.isSome_iff_exists.1 this
  exact ⟨_, by rw [hl]; rfl⟩

/-- A load of a cell, in a region that draws its order, in whatever class. -/
theorem quiet_load_in {P : Program} {C : World → Prop} {o : Oper} {a : Act} {K : Act → Prop} (ty : TypeId) (x : Operand) (ho : o.op = .load ty x)
    (p : Addr) (hx : a.eval x = .pointer (some p)) (v : Value) (d : TypeDesc) (hc : ∀ w, C w → w.cell? p = some v)
    (hu : P.underlying ty = some d) (hd : (match d with | .struct _ | .array _ _ => true | _ => false) = false)
    (h : K (a.put o.dst v)) : o.quiet P a C K := by
  refine ⟨v, fun W hW => ?_, h⟩
  have hcW := hc W hW
  have hagg : (isAgg ty).run P W = .ok false W := by
    unfold isAgg
    rw [Sem.run_bind, run_underlying hu W]
    cases d <;> simp_all
  unfold Oper.quietAt execOp
  simp only [ho, hx, Instr.loadAt, Instr.sureAddr, Sem.run_bind, Sem.run_pure, Result.andThen_ok, loadVar, hagg]
  simp [go_sem, hcW, Oper.quietUpon]

/-- A region that draws its order, in whatever class. -/
theorem wp_region_in {P : Program} {C : World → Prop} {id : Nat} {Q : Exit → Act → World → Prop} {a : Act} {w : World} {l : List Oper} (hm : P.follows .mixedOrders = true) (hB : Region.lexB .any l.toArray = true) (hC : C w.drew)
    (h : wpQuiet P l.toArray C (fun a' => ∀ W, C W → Q .normal a' W) l a) : (Code.region id l.toArray true).wp P Q a w :=
  wp_region_quiet (C := C) hm hB hC (by simpa using h)

theorem cell_block {w w' : World} {p : Addr} (h : w'.heap[p.block]? = w.heap[p.block]?) : w'.cell? p = w.cell? p := by unfold World.cell?; rw [h]
theorem cell_not_map {w : World} {p : Addr} {v : Value} {es : Array MapEntry} {c : Nat} (h : w.cell? p = some v) (hm : w.heap[p.block]? = some (.map es c)) : False := by
  unfold World.cell? at h; rw [hm] at h; cases h
theorem maps_block {w : World} {P : Program} {k : TypeId} {b n : Nat} {f : Value → Option Value} (h : MapIs P k w b n f) : ∃ es c, w.heap[b]? = some (.map es c) := by
  obtain ⟨es, c, h, _⟩ := h; exact ⟨es, c, h⟩

/-- The state that the closure goes over. -/
structure DS (w0 : World) (p n : List (List UInt8)) (Ap An : Option Addr) (cp cn bp bn bs bd bm : Nat) (W : World) : Prop where
  below : Below w0.heap.size w0 W
  hp : W.cell? ⟨bp, 0, none⟩ = some (.slice Ap p.length cp)
  hn : W.cell? ⟨bn, 0, none⟩ = some (.slice An n.length cn)
  hs : W.cell? ⟨bs, 0, none⟩ = some (.map (some bm))
  hd : W.cell? ⟨bd, 0, none⟩ = some (.func (.func 38) #[] #[.pointer (some ⟨bp, 0, none⟩), .pointer (some ⟨bn, 0, none⟩), .pointer (some ⟨bs, 0, none⟩), .pointer (some ⟨bd, 0, none⟩)])
  map : ∃ k f, MapIs Tryz.prog 67 W bm k f ∧ (∀ i j, f (pairV i j) = some (.bool true) → partsP (p.drop i) (n.drop j) = false) ∧ ∀ x v, f x = some v → ∃ b, v = .bool b
section
variable {w0 W W' : World} {p n : List (List UInt8)} {Ap An : Option Addr} {cp cn bp bn bs bd bm : Nat}
theorem DS.below' (h : DS w0 p n Ap An cp cn bp bn bs bd bm W) (hb : Below W.heap.size W W') : DS w0 p n Ap An cp cn bp bn bs bd bm W' := by
  have c := fun {q : Addr} {v : Value} (h : W.cell? q = some v) => (hb.cell (World.block_lt_of_cell? _ _ h)).trans h
  obtain ⟨k, f, h1, h2⟩ := h.map
  exact ⟨h.below.trans (hb.mono h.below.size), c h.hp, c h.hn, c h.hs, c h.hd, k, f, h1.below hb, h2⟩
theorem DS.drew (h : DS w0 p n Ap An cp cn bp bn bs bd bm W) : DS w0 p n Ap An cp cn bp bn bs bd bm W.drew := h.below' (Below.refl _ _).drew
set_option maxRecDepth 100000 in
open Classical in
/-- what has been found is kept -/
theorem DS.put (h : DS w0 p n Ap An cp cn bp bn bs bd bm W) (hbm : w0.heap.size ≤ bm) {i j : Nat} (hi : i ≤ 4294967296) (hj : j ≤ 4294967296) {ok : Bool} (hok : partsP (p.drop i) (n.drop j) = ok) :
    ∃ W', (Instr.mapUpdate 65 (.map (some bm)) (.agg #[.int .i64 i, .int .i64 j]) (.bool (!ok))).run Tryz.prog W = .ok () W' ∧ DS w0 p n Ap An cp cn bp bn bs bd bm W' := by
  obtain ⟨k, f, h1, h2, h3⟩ := h.map
  obtain ⟨es, cl, hmb⟩ := maps_block h1
  obtain ⟨l, hl⟩ := pair_key i j hi hj
  obtain ⟨o, ho, hm⟩ := h1.store keyed2 Tryz.underlying65 hl (fun x => if x = pairV i j then some (.bool (!ok)) else f x) (fun y hy => if_neg hy) (if_pos rfl)
  refine ⟨{ W with heap := W.heap.setIfInBounds bm o }, ho W rfl, ?_⟩
  have hlt := h1.lt
  have hoth : ∀ b, b ≠ bm → ({ W with heap := W.heap.setIfInBounds bm o } : World).heap[b]? = W.heap[b]? := fun b hb => by simp [Ne.symm hb]
  have c := fun {q : Addr} {v : Value} (hq : W.cell? q = some v) => (cell_block (w := W) (w' := { W with heap := W.heap.setIfInBounds bm o }) (p := q) (hoth _ (fun e => cell_not_map hq (by rw [e]; exact hmb)))).trans hq
  refine ⟨⟨h.below.os, h.below.tape, h.below.output, by simpa using h.below.size, fun b hb => (hoth b (by omega)).trans (h.below.block b hb)⟩, c h.hp, c h.hn, c h.hs, c h.hd, k + 1, _, hm _ (by simp [hlt]), fun i' j' hf => ?_, fun x v hx => ?_⟩
  · by_cases e : pairV i' j' = pairV i j
    · obtain ⟨rfl, rfl⟩ := pairV_inj e
      rw [if_pos rfl] at hf
      injection hf with hf
      injection hf with hf
      cases ok
      · exact hok
      · cases hf
    · rw [if_neg e] at hf
      exact h2 i' j' hf
  · by_cases e : x = pairV i j
    · rw [if_pos e] at hx
      injection hx with hx
      exact ⟨_, hx.symm⟩
    · rw [if_neg e] at hx
      exact h3 x v hx
theorem DS.get (h : DS w0 p n Ap An cp cn bp bn bs bd bm W) {i j : Nat} (hi : i ≤ 4294967296) (hj : j ≤ 4294967296) :
    ∃ b, (Instr.lookup 65 (.map (some bm)) (.agg #[.int .i64 i, .int .i64 j]) false).run Tryz.prog W = .ok (.bool b) W ∧ (b = true → partsP (p.drop i) (n.drop j) = false) := by
  obtain ⟨k, f, h1, h2, h3⟩ := h.map
  obtain ⟨l, hl⟩ := pair_key i j hi hj
  have hz : (zeroValue 4).run Tryz.prog W = .ok (.bool false) W := Tryz.zeroValue4 W
  have hlk := h1.look keyed2 Tryz.underlying65 hz hl false
  rw [if_neg (by decide)] at hlk
  cases hf : f (pairV i j) with
  | none =>
    rw [hf] at hlk
    exact ⟨false, hlk, fun e => by cases e⟩
  | some v =>
    obtain ⟨b, rfl⟩ := h3 _ _ hf
    rw [hf] at hlk
    refine ⟨b, hlk, fun e => h2 i j (by rw [hf, e])⟩
end
theorem partsP_nil (l : List (List UInt8)) : partsP [] l = l.isEmpty := by unfold partsP; simp [matchT]
theorem partsP_star {p n : List (List UInt8)} : partsP ([42, 42] :: p) n = (partsP p n || (match n with | [] => false | _ :: m => partsP ([42, 42] :: p) m)) := by
  unfold partsP
  rw [List.map_cons, partsTok_stars, matchT_none]
  cases n with
  | nil => rw [matchS_nil, Bool.or_false]
  | cons x m =>
    rw [matchS_cons]
    show _ = (_ || matchT (none :: p.map partsTok) m)
    rw [matchT_none]
theorem partsP_star_at {p n : List (List UInt8)} {i j : Nat} (hi : i < p.length) (h : p[i] = [42, 42]) : partsP (p.drop i) (n.drop j) = (partsP (p.drop (i + 1)) (n.drop j) || (decide (j < n.length) && partsP (p.drop i) (n.drop (j + 1)))) := by
  rw [List.drop_eq_getElem_cons hi, h]
  by_cases hj : j < n.length
  · rw [List.drop_eq_getElem_cons hj, partsP_star, decide_eq_true hj, Bool.true_and]
  · rw [List.drop_eq_nil_of_le (show n.length ≤ j by omega), partsP_star, decide_eq_false hj, Bool.false_and]
theorem partsP_one_at {p n : List (List UInt8)} {i j : Nat} (hi : i < p.length) (h : p[i] ≠ [42, 42]) : partsP (p.drop i) (n.drop j) = if hj : j < n.length then (partP p[i] n[j] && partsP (p.drop (i + 1)) (n.drop (j + 1))) else false := by
  rw [List.drop_eq_getElem_cons hi]
  unfold partsP
  rw [List.map_cons, partsTok_no h]
  by_cases hj : j < n.length
  · rw [List.drop_eq_getElem_cons hj, dif_pos hj]
    simp only [matchT]
  · rw [List.drop_eq_nil_of_le (show n.length ≤ j by omega), dif_neg hj]
    simp only [matchT]
end Go.Proofs.YtgppfcaghjbjmaaGreatDoor
end

/- glob.parts: the closure, by its pairs. -/
section
namespace Go.Proofs.YtgppfcaghjbjmaaGreatDoor
open Go.RowKit Go.Maps Plain

set_option maxHeartbeats 4000000 in
set_option maxRecDepth 100000 in
theorem down_any (w0 : World) (p n : List (List UInt8)) (Ap An : Option Addr) (cp cn bp bn bs bd bm : Nat) (hT : Tabs w0) (hbm : w0.heap.size ≤ bm)
    (hp : Reads w0 1 Ap p.length (strs p)) (hn : Reads w0 1 An n.length (strs n)) (hpl : p.length ≤ 65536) (hnl : n.length ≤ 65536)
    (hpo : ∀ x ∈ p, Lib.validD x = true ∧ wfP x = true ∧ x.length ≤ 65536) (hno : ∀ x ∈ n, Lib.validD x = true ∧ x.length ≤ 65536) :
    ∀ (N i j : Nat) (W : World), (p.length - i) + (n.length - j) ≤ N → i ≤ p.length → j ≤ n.length → DS w0 p n Ap An cp cn bp bn bs bd bm W →
      Calls Tryz.prog 38 #[.int .i64 i, .int .i64 j, .pointer (some ⟨bp, 0, none⟩), .pointer (some ⟨bn, 0, none⟩), .pointer (some ⟨bs, 0, none⟩), .pointer (some ⟨bd, 0, none⟩)] W
        fun e W' => e = .returned (.bool (partsP (p.drop i) (n.drop j))) ∧ DS w0 p n Ap An cp cn bp bn bs bd bm W' := by
  intro N
  induction N with
  | zero =>
    intro i j W hN hi hj hS
    obtain rfl : i = p.length := by omega
    obtain rfl : j = n.length := by omega
    have h1 := hS.hp
    have h2 := hS.hn
    have HS := Lib.hid hS
    clear hS hp hn hT hpo hno
    rw [List.drop_length, List.drop_length]
    go_enter Tryz.func38, Tryz.ntmps38
    go_wp2_with (fail)
    go_ret
    exact ⟨by rw [partsP_nil]; rfl, HS.out⟩
  | succ N ih =>
    intro i j W hN hi hj hS
    have h1 := hS.hp
    have h2 := hS.hn
    have h3 := hS.hs
    have h4 := hS.hd
    have HS := Lib.hid hS
    have i0 : (0 : Int) ≤ i := by omega
    have j0 : (0 : Int) ≤ j := by omega
    by_cases hip : i = p.length
    · subst hip
      have hje : ((j : Int) == (n.length : Int)) = (n.drop j).isEmpty := by
        rw [Bool.eq_iff_iff, beq_iff_eq, List.isEmpty_iff, List.drop_eq_nil_iff]; omega
      have HR := Lib.hid (show partsP (p.drop p.length) (n.drop j) = (n.drop j).isEmpty by rw [List.drop_length, partsP_nil])
      generalize (n.drop j).isEmpty = b at *
      have hii : ((p.length : Int) == (p.length : Int)) = true := by simp
      clear hS hp hn hT hpo hno
      go_enter Tryz.func38, Tryz.ntmps38
      go_wp2_with (fail)
      go_ret
      exact ⟨by rw [HR.out]; rfl, HS.out⟩
    have hil : i < p.length := by omega
    have hii : ((i : Int) == (p.length : Int)) = false := by rw [beq_eq_false_iff_ne]; omega
    obtain ⟨b, hlk, hbf⟩ := hS.get (i := i) (j := j) (by omega) (by omega)
    cases b with
    | true =>
      have HR := Lib.hid (hbf rfl)
      clear hS hp hn hT hpo hno ih hbf
      go_enter Tryz.func38, Tryz.ntmps38
      go_wp2_with (fail)
      go_ret
      exact ⟨by rw [HR.out]; rfl, HS.out⟩
    | false =>
      have HPUT := Lib.hid (fun (X : World) (ok : Bool) (hX : DS w0 p n Ap An cp cn bp bn bs bd bm X) (hok : partsP (p.drop i) (n.drop j) = ok) => hX.put hbm (i := i) (j := j) (by omega) (by omega) hok)
      have HCELL := Lib.hid (fun (X : World) (hX : DS w0 p n Ap An cp cn bp bn bs bd bm X) => (And.intro hX.hp (And.intro hX.hn (And.intro hX.hs hX.hd))))
      obtain ⟨ad, rfl, cS⟩ := hp.str_at hil
      have HPC := Lib.hid (fun (X : World) (hX : DS w0 p n (some ad) An cp cn bp bn bs bd bm X) => (hX.below.cell (World.block_lt_of_cell? _ _ cS)).trans cS)
      have cW := HPC.out W hS
      have e1 : IntKind.i64.wrap ((i : Int) + 1) = (i : Int) + 1 := IntWalk.i64_in _ (by omega)
      have e2 : IntKind.i64.wrap ((j : Int) + 1) = (j : Int) + 1 := IntWalk.i64_in _ (by omega)
      have i1 : (i : Int) < (p.length : Int) := by omega
      have IH := Lib.hid ih
      by_cases hst : p[i] = [42, 42]
      · have hps := partsP_star_at (n := n) (j := j) hil hst
        rw [hst] at cW
        have hq : (([42, 42] : List UInt8) == [42, 42]) = true := rfl
        have HQ1 := Lib.hid (fun (X : World) (hX : DS w0 p n (some ad) An cp cn bp bn bs bd bm X) => ih (i + 1) j X (by omega) (by omega) hj hX)
        have HQ2 := Lib.hid (fun (hjn : j < n.length) (X : World) (hX : DS w0 p n (some ad) An cp cn bp bn bs bd bm X) => ih i (j + 1) X (by omega) hi (by omega) hX)
        clear hS hp hn hT hpo hno ih hbf cS
        generalize hr1 : partsP (p.drop (i + 1)) (n.drop j) = r1 at *
        generalize hr2 : partsP (p.drop i) (n.drop (j + 1)) = r2 at *
        have HPS := Lib.hid hps
        clear hps hr1 hr2 hst
        have hjd : decide ((j : Int) < (n.length : Int)) = decide (j < n.length) := by rw [decide_eq_decide]; omega
        go_enter Tryz.func38, Tryz.ntmps38
        go_wp2_with (fail)
        refine (HQ1.out _ HS.out).mono ?_
        rintro e w1 ⟨rfl, hS1⟩
        have HS1 := Lib.hid hS1
        obtain ⟨k1, k2, k3, k4⟩ := HCELL.out w1 hS1
        clear hS1 h1 h2 h3 h4 hlk cW
        cases r1 with
        | true =>
          have hr := HPS.out
          rw [Bool.true_or] at hr
          obtain ⟨w2, hup, hS2⟩ := HPUT.out w1 true HS1.out hr
          rw [Bool.not_true] at hup
          have HR := Lib.hid hr
          have HS2 := Lib.hid hS2
          clear hS2 hr
          go_wp2_with (fail)
          go_ret
          exact ⟨by rw [HR.out]; rfl, HS2.out⟩
        | false =>
          by_cases hjn : j < n.length
          · rw [decide_eq_true hjn] at hjd
            have hr := HPS.out
            rw [Bool.false_or, decide_eq_true hjn, Bool.true_and] at hr
            have HR := Lib.hid hr
            clear hr
            go_wp2_with (fail)
            refine (HQ2.out hjn _ HS1.out).mono ?_
            rintro e w2 ⟨rfl, hS2⟩
            have HS2 := Lib.hid hS2
            obtain ⟨m1, m2, m3, m4⟩ := HCELL.out w2 hS2
            obtain ⟨w3, hup, hS3⟩ := HPUT.out w2 r2 hS2 HR.out
            have HS3 := Lib.hid hS3
            clear hS2 hS3 k1 k2 k3 k4
            go_wp2_with (fail)
            go_ret
            exact ⟨by rw [HR.out]; rfl, HS3.out⟩
          · rw [decide_eq_false hjn] at hjd
            have hr := HPS.out
            rw [Bool.false_or, decide_eq_false hjn, Bool.false_and] at hr
            obtain ⟨w2, hup, hS2⟩ := HPUT.out w1 false HS1.out hr
            rw [Bool.not_false] at hup
            have HR := Lib.hid hr
            have HS2 := Lib.hid hS2
            clear hS2 hr
            go_wp2_with (fail)
            go_ret
            exact ⟨by rw [HR.out]; rfl, HS2.out⟩
      · have hps := partsP_one_at (n := n) (j := j) hil hst
        have hq : (p[i] == [42, 42]) = false := by rw [beq_eq_false_iff_ne]; exact hst
        obtain ⟨v1, v2, v3⟩ := hpo p[i] (List.getElem_mem hil)
        by_cases hjn : j < n.length
        · have hjd : decide ((j : Int) < (n.length : Int)) = true := by rw [decide_eq_true_eq]; omega
          rw [dif_pos hjn] at hps
          obtain ⟨ad2, rfl, cS2⟩ := hn.str_at hjn
          have HNC := Lib.hid (fun (X : World) (hX : DS w0 p n (some ad) (some ad2) cp cn bp bn bs bd bm X) => (hX.below.cell (World.block_lt_of_cell? _ _ cS2)).trans cS2)
          obtain ⟨u1, u2⟩ := hno n[j] (List.getElem_mem hjn)
          have j1 : (j : Int) < (n.length : Int) := by omega
          have HPT := Lib.hid (fun (X : World) (hX : DS w0 p n (some ad) (some ad2) cp cn bp bn bs bd bm X) => part_any p[i] n[j] X (Utf8Tabs_below hT hX.below) v1 v2 u1 v3 u2)
          have HQ2 := Lib.hid (fun (X : World) (hX : DS w0 p n (some ad) (some ad2) cp cn bp bn bs bd bm X) => ih (i + 1) (j + 1) X (by omega) (by omega) (by omega) hX)
          clear hS hp hn hT hpo hno ih hbf cS cS2 v1 v2 v3 u1 u2
          generalize hx : p[i] = x at *
          generalize hy : n[j] = y at *
          generalize partP x y = r1 at *
          generalize partsP (p.drop (i + 1)) (n.drop (j + 1)) = r2 at *
          have HPS := Lib.hid hps
          clear hps hst hx hy
          go_enter Tryz.func38, Tryz.ntmps38
          go_wp2_with (fail)
          cases r1 with
          | false =>
            have HFA : ∀ q : Prop, (∀ X, DS w0 p n (some ad) (some ad2) cp cn bp bn bs bd bm X → q) ↔ q := fun q => ⟨fun h => h _ HS.out, fun h _ _ => h⟩
            refine wp_region_in (C := DS w0 p n (some ad) (some ad2) cp cn bp bn bs bd bm) (by kernel_rfl) (by kernel_rfl) HS.out.drew ?_
            repeat (first | go_big_quiet_step ((intro hW; go_at_call 26; exact (HPT.out _ hW).mono fun _ _ ⟨he, hb⟩ => ⟨he, hW.below' hb⟩)) | (go_big_quiet_want; (first | (refine quiet_load_in _ _ rfl ⟨bn, 0, none⟩ rfl _ _ (fun X hX => hX.hn) Tryz.underlying38 rfl ?_) | (refine quiet_load_in _ _ rfl ⟨bp, 0, none⟩ rfl _ _ (fun X hX => hX.hp) Tryz.underlying38 rfl ?_) | (refine quiet_load_in _ _ rfl (ad.add i) rfl _ _ HPC.out Tryz.underlying9 rfl ?_) | (refine quiet_load_in _ _ rfl (ad2.add j) rfl _ _ HNC.out Tryz.underlying9 rfl ?_)); simp only [Act.put, List.setIfInBounds_toArray, List.set_cons_succ, List.set_cons_zero]; go_big_quiet_on))
            refine wpQuiet_nil ?_
            intro X hX
            clear HFA
            obtain ⟨m1, m2, m3, m4⟩ := HCELL.out X hX
            have hr := HPS.out
            rw [Bool.false_and] at hr
            obtain ⟨w2, hup, hS2⟩ := HPUT.out X false hX hr
            rw [Bool.not_false] at hup
            have HR := Lib.hid hr
            have HS2 := Lib.hid hS2
            clear hS2 hr hX h1 h2 h3 h4 hlk
            go_wp2_with (fail)
            go_ret
            exact ⟨by rw [HR.out]; rfl, HS2.out⟩
          | true =>
            have HFA : ∀ q : Prop, (∀ X, DS w0 p n (some ad) (some ad2) cp cn bp bn bs bd bm X → q) ↔ q := fun q => ⟨fun h => h _ HS.out, fun h _ _ => h⟩
            refine wp_region_in (C := DS w0 p n (some ad) (some ad2) cp cn bp bn bs bd bm) (by kernel_rfl) (by kernel_rfl) HS.out.drew ?_
            repeat (first | go_big_quiet_step ((first | (intro hW; go_at_call 26; exact (HPT.out _ hW).mono fun _ _ ⟨he, hb⟩ => ⟨he, hW.below' hb⟩) | (intro hW; go_at_call 38; exact HQ2.out _ hW))) | (go_big_quiet_want; (first | (refine quiet_load_in _ _ rfl ⟨bn, 0, none⟩ rfl _ _ (fun X hX => hX.hn) Tryz.underlying38 rfl ?_) | (refine quiet_load_in _ _ rfl ⟨bp, 0, none⟩ rfl _ _ (fun X hX => hX.hp) Tryz.underlying38 rfl ?_) | (refine quiet_load_in _ _ rfl (ad.add i) rfl _ _ HPC.out Tryz.underlying9 rfl ?_) | (refine quiet_load_in _ _ rfl (ad2.add j) rfl _ _ HNC.out Tryz.underlying9 rfl ?_) | (refine quiet_load_in _ _ rfl ⟨bd, 0, none⟩ rfl _ _ (fun X hX => hX.hd) Tryz.underlying66 rfl ?_)); simp only [Act.put, List.setIfInBounds_toArray, List.set_cons_succ, List.set_cons_zero]; go_big_quiet_on))
            refine wpQuiet_nil ?_
            intro X hX
            clear HFA
            obtain ⟨m1, m2, m3, m4⟩ := HCELL.out X hX
            have hr := HPS.out
            rw [Bool.true_and] at hr
            obtain ⟨w2, hup, hS2⟩ := HPUT.out X r2 hX hr
            have HR := Lib.hid hr
            have HS2 := Lib.hid hS2
            clear hS2 hr hX h1 h2 h3 h4 hlk
            go_wp2_with (fail)
            go_ret
            exact ⟨by rw [HR.out]; rfl, HS2.out⟩
        · have hjd : decide ((j : Int) < (n.length : Int)) = false := by rw [decide_eq_false_iff_not]; omega
          rw [dif_neg hjn] at hps
          clear hp hn hT hpo hno ih hbf cS v1 v2 v3
          generalize hx : p[i] = x at *
          have HPS := Lib.hid hps
          clear hps hst hx
          go_enter Tryz.func38, Tryz.ntmps38
          go_wp2_with (fail)
          have HFA : ∀ q : Prop, (∀ X, DS w0 p n (some ad) An cp cn bp bn bs bd bm X → q) ↔ q := fun q => ⟨fun h => h _ HS.out, fun h _ _ => h⟩
          refine wp_region_in (C := DS w0 p n (some ad) An cp cn bp bn bs bd bm) (by kernel_rfl) (by kernel_rfl) HS.out.drew ?_
          repeat (first | go_big_quiet_step ((fail)) | (go_big_quiet_want; (first | (refine quiet_load_in _ _ rfl ⟨bn, 0, none⟩ rfl _ _ (fun X hX => hX.hn) Tryz.underlying38 rfl ?_)); simp only [Act.put, List.setIfInBounds_toArray, List.set_cons_succ, List.set_cons_zero]; go_big_quiet_on))
          refine wpQuiet_nil ?_
          intro X hX
          clear HFA
          obtain ⟨m1, m2, m3, m4⟩ := HCELL.out X hX
          have hr := HPS.out
          obtain ⟨w2, hup, hS2⟩ := HPUT.out X false hX hr
          rw [Bool.not_false] at hup
          have HR := Lib.hid hr
          have HS2 := Lib.hid hS2
          clear hS2 hr hX h1 h2 h3 h4 hlk
          go_wp2_with (fail)
          go_ret
          exact ⟨by rw [HR.out]; rfl, HS2.out⟩
end Go.Proofs.YtgppfcaghjbjmaaGreatDoor
end

/- strings.ContainsAny for '/' and the byte 0. -/
section
namespace Go.Proofs.YtgppfcaghjbjmaaGreatDoor
open Go.RowKit Plain

theorem IndexByte_none (s : ByteArray) (c : UInt8) (w : World) (hs : s.data.toList = []) :
    Calls Tryz.prog 94 #[.string s, .int .u8 (c.toNat : Int)] w (Ret w (.int .i64 (-1))) :=
  (Tryz.strings_IndexByte s (c.toNat : Int) w).mono fun e w' ⟨he, hw⟩ => ⟨by rw [he, hs]; rfl, hw ▸ Below.refl _ _⟩

set_option maxHeartbeats 2000000 in
set_option maxRecDepth 100000 in
theorem IndexRune_hi (r : Int) (w : World) (h0 : 128 ≤ r) (hr : r ≤ 1114111) (hne : r ≠ 65533) (hv : Utf8.valid r = true) :
    Calls Tryz.prog 82 #[.string ⟨#[47, 0]⟩, .int .i32 r] w (Ret w (.int .i64 (-1))) := by
  obtain ⟨hs2, hs4, hlast⟩ := encode_facts r hv h0
  have hvr : Lib.validRune r = true := by
    unfold Utf8.valid at hv
    unfold Lib.validRune
    simp at hv ⊢
    omega
  have HV := Lib.hid (Tryz.utf8_ValidRune r w)
  rw [hvr] at HV
  have hd : ((r : Int) == 65533) = false := by simpa using hne
  have hlast' := hlast (by omega)
  have hd2 : decide (r < 128) = false := by simp; omega
  clear hne hvr
  have g2 : (2 : Int) ≤ (Utf8.encode r).size := by omega
  have g4 : ((Utf8.encode r).size : Int) ≤ 4 := by omega
  by_cases h2 : (Utf8.encode r).size = 2
  · have h1 : 1 < (Utf8.encode r).size := by omega
    obtain ⟨x, hx⟩ : ∃ x, (Utf8.encode r)[1]'h1 = x := ⟨_, rfl⟩
    have hl : 128 ≤ x.toNat := by rw [← hx]; simpa [h2] using hlast'
    have x1 : ((x.toNat : Int) != 0) = true := by simp; omega
    have x2 : ((0 : Int) != x.toNat) = true := by simp; omega
    clear hlast hlast' hl hs2 hs4
    go_enter Tryz.func82, Tryz.ntmps82
    go_wp2_with (fail)
    refine HV.out.mono ?_
    rintro e w1 ⟨rfl, rfl⟩
    go_wp2_with (fail)
    go_step3
    go_wp2_with (fail)
    go_loopw [9] (fun t9 W => t9 = .int .i64 1 ∧ W = w1) (fun _ _ => 0)
    case atStart => exact ⟨rfl, rfl⟩
    case round =>
      obtain ⟨rfl, rfl⟩ := hrel
      go_wp2_with (fail)
      go_step3
      go_wp2_with (fail)
      refine wp_region_below (by kernel_rfl) (by kernel_rfl) ?_
      repeat (go_big_quiet_step (fail))
      refine wpQuiet_nil ?_
      intro W2 hW2
      go_wp2_with (fail)
      have e2 : IntKind.i64.wrap 2 = 2 := by decide
      refine wp_region_below (by kernel_rfl) (by kernel_rfl) ?_
      repeat (go_big_quiet_step ((intro hW; go_at_call 94; exact Ret.quiet hW (IndexByte_none _ _ _ rfl))))
      refine wpQuiet_nil ?_
      intro W3 hW3
      go_wp2_with (fail)
      rw [Exit.noGoto_ret]
      go_wp2_with (fail)
      rw [Exit.noGoto_ret]
      go_ret
      exact ⟨rfl, hW2.trans (hW3.mono hW2.size)⟩
  · have h3 : (2 : Int) ≤ ((Utf8.encode r).size : Int) - 1 := by omega
    clear hlast hlast' h2
    go_enter Tryz.func82, Tryz.ntmps82
    go_wp2_with (fail)
    refine HV.out.mono ?_
    rintro e w1 ⟨rfl, rfl⟩
    go_wp2_with (fail)
    go_step3
    go_wp2_with (fail)
    go_loopw [9] (fun t9 W => t9 = .int .i64 (((Utf8.encode r).size : Int) - 1) ∧ W = w1) (fun _ _ => 0)
    case atStart => exact ⟨rfl, rfl⟩
    case round =>
      obtain ⟨rfl, rfl⟩ := hrel
      go_wp2_with (fail)
      rw [Exit.noGoto_ret]
      go_ret
      exact ⟨rfl, Below.refl _ _⟩

set_option maxHeartbeats 2000000 in
set_option maxRecDepth 100000 in
theorem IndexRune_fffd (w : World) :
    Calls Tryz.prog 82 #[.string ⟨#[47, 0]⟩, .int .i32 65533] w (Ret w (.int .i64 (-1))) := by
  go_enter Tryz.func82, Tryz.ntmps82
  go_wp2_with (fail)
  go_loopw [5, 6] (fun t5 t6 W => ∃ i : Nat, i ≤ 2 ∧ W = w.iter ⟨#[47, 0]⟩ i) (fun _ _ W => 2 - W.iterPos w.heap.size)
  case atStart => exact ⟨0, by omega, rfl⟩
  case round =>
    obtain ⟨i, hi, rfl⟩ := hrel
    have : i = 0 ∨ i = 1 ∨ i = 2 := by omega
    rcases this with rfl | rfl | rfl
    · have hnx := fun ty => run_next_any (P := Tryz.prog) w ⟨#[47, 0]⟩ 0 ty (by decide)
      rw [show Utf8.decode ⟨#[47, 0]⟩ 0 = (47, 1) by decide +kernel] at hnx
      go_wp2_with (fail)
      go_roundw
      case rel => exact ⟨1, by omega, rfl⟩
      case measure => simp
    · have hnx := fun ty => run_next_any (P := Tryz.prog) w ⟨#[47, 0]⟩ 1 ty (by decide)
      rw [show Utf8.decode ⟨#[47, 0]⟩ 1 = (0, 1) by decide +kernel] at hnx
      go_wp2_with (fail)
      go_roundw
      case rel => exact ⟨2, by omega, rfl⟩
      case measure => simp
    · have hnx := fun ty => run_next_end (P := Tryz.prog) w ⟨#[47, 0]⟩ 2 ty (by decide)
      go_wp2_with (fail)
      go_ret
      exact ⟨rfl, (Below.refl _ _).alloc (Nat.le_refl _) _⟩

/-- some byte of a text is '/' or 0 -/
def anyM (l : List UInt8) : Bool := l.contains 47 || l.contains 0
def IdxOut (w : World) (l : List UInt8) (e : Ending) (w' : World) : Prop := ∃ x : Int, e = .returned (.int .i64 x) ∧ decide (0 ≤ x) = anyM l ∧ Below w.heap.size w w'

theorem IndexRune_lo (x : UInt8) (w : World) (h : x.toNat < 128) :
    Calls Tryz.prog 82 #[.string ⟨#[47, 0]⟩, .int .i32 (x.toNat : Int)] w (Ret w (.int .i64 (Lib.indexByte [47, 0] x))) :=
  (Tryz.strings_IndexRune_ascii ⟨#[47, 0]⟩ (x.toNat : Int) w (by omega) (by omega)).mono fun e w' ⟨he, hw⟩ => ⟨by rw [he]; simp, hw ▸ Below.refl _ _⟩
theorem idx_lo (x : UInt8) : Lib.indexByte [47, 0] x = if x = 47 then 0 else if x = 0 then 1 else -1 := by
  by_cases h : x = 47
  · subst h; rfl
  · by_cases h2 : x = 0
    · subst h2; rfl
    · simp [Lib.indexByte, h, h2, Ne.symm h, Ne.symm h2]

theorem anyM_none {l : List UInt8} (h : ∀ j, j < l.length → l.getD j 0 ≠ 47 ∧ l.getD j 0 ≠ 0) : anyM l = false := by
  unfold anyM
  rw [Bool.or_eq_false_iff]
  constructor
  · rw [← Bool.not_eq_true, List.contains_iff_mem]
    intro hm
    obtain ⟨j, hj, e⟩ := List.mem_iff_getElem.1 hm
    exact (h j hj).1 (by simp [List.getD, hj, e])
  · rw [← Bool.not_eq_true, List.contains_iff_mem]
    intro hm
    obtain ⟨j, hj, e⟩ := List.mem_iff_getElem.1 hm
    exact (h j hj).2 (by simp [List.getD, hj, e])
theorem anyM_some {l : List UInt8} {i : Nat} (hi : i < l.length) (h : l.getD i 0 = 47 ∨ l.getD i 0 = 0) : anyM l = true := by
  have hg : l.getD i 0 = l[i] := by simp [List.getD, hi]
  rw [hg] at h
  have hm := List.getElem_mem hi
  unfold anyM
  rcases h with h | h <;> rw [h] at hm <;> simp [hm]

set_option maxHeartbeats 1000000 in
set_option maxRecDepth 100000 in
theorem IndexAny_short (l : List UInt8) (w : World) (h8 : l.length ≤ 8) :
    Calls Tryz.prog 67 #[.string ⟨l.toArray⟩, .string ⟨#[47, 0]⟩] w (IdxOut w l) := by
  have hS := fun W => Tryz.strings_shouldUseASCIISet (l.length : Int) W
  rw [decide_eq_false (show ¬ (8 : Int) < l.length by omega)] at hS
  have HS := Lib.hid hS
  clear hS
  have hsz : (ByteArray.mk l.toArray).size = l.length := by simp [ByteArray.size]
  go_enter Tryz.func67, Tryz.ntmps67
  go_wp2_with (fail)
  refine (HS.out _).mono ?_
  rintro e w1 ⟨rfl, rfl⟩
  go_wp2_with (fail)
  go_loopw [9, 10] (fun _ _ W => ∃ i : Nat, i ≤ l.length ∧ Hid (∀ j, j < i → l.getD j 0 ≠ 47 ∧ l.getD j 0 ≠ 0) ∧ Hid (W.heap[w1.heap.size]? = some (.stringIter ⟨l.toArray⟩ i)) ∧ Hid (Below w1.heap.size w1 W)) (fun _ _ W => l.length - W.iterPos w1.heap.size)
  case atStart => exact ⟨0, by omega, Lib.hid (fun j h => by omega), Lib.hid (World.iter_heap _ _ _), Lib.hid ((Below.refl _ _).alloc (Nat.le_refl _) _)⟩
  case round =>
    obtain ⟨i, hi, HN, HI, HB⟩ := hrel
    have hk := HI.out
    have hpos : wr.iterPos w1.heap.size = i := by unfold World.iterPos; rw [hk]
    have HP := Lib.hid hpos
    clear hpos
    by_cases hlt : i < l.length
    · have hsz' : i < (ByteArray.mk l.toArray).size := by omega
      by_cases hb : (l.getD i 0).toNat < 128
      · have hnx := fun ty => Lib.run_next_any_at (P := Tryz.prog) wr w1.heap.size ⟨l.toArray⟩ i ty hk hsz'
        rw [dec_lo l i hb] at hnx
        have HS1 := Lib.hid (@anyM_some l i hlt)
        have hik := Lib.iterAt_heap wr w1.heap.size ⟨l.toArray⟩ i (i + 1) hk
        have hib := Lib.below_iterAt HB.out (Nat.le_refl _) ⟨l.toArray⟩ (i + 1)
        have his := Lib.iterAt_size wr w1.heap.size ⟨l.toArray⟩ (i + 1)
        generalize hx : l.getD i 0 = x at *
        have HX := Lib.hid hx
        have HIK := Lib.hid hik
        have HIB := Lib.hid hib
        have HC := Lib.hid (IndexRune_lo x (wr.iterAt w1.heap.size ⟨l.toArray⟩ (i + 1)) hb)
        rw [idx_lo] at HC
        clear hx hik hib hsz hk
        by_cases h1 : x = 47
        · rw [if_pos h1] at HC
          have H1 := Lib.hid h1
          clear h1
          go_wp2_with (fail)
          refine HC.out.mono ?_
          rintro e w2 ⟨rfl, hw2⟩
          go_wp2_with (fail)
          go_ret
          exact ⟨i, rfl, by rw [HS1.out (.inl H1.out)]; simp, HIB.out.trans (hw2.mono HIB.out.size)⟩
        by_cases h2 : x = 0
        · rw [if_neg h1, if_pos h2] at HC
          have H2 := Lib.hid h2
          clear h1 h2
          go_wp2_with (fail)
          refine HC.out.mono ?_
          rintro e w2 ⟨rfl, hw2⟩
          go_wp2_with (fail)
          go_ret
          exact ⟨i, rfl, by rw [HS1.out (.inr H2.out)]; simp, HIB.out.trans (hw2.mono HIB.out.size)⟩
        · rw [if_neg h1, if_neg h2] at HC
          have H12 := Lib.hid (And.intro h1 h2)
          clear h1 h2
          go_wp2_with (fail)
          refine HC.out.mono ?_
          rintro e w2 ⟨rfl, hw2⟩
          have hk2 := (hw2.block w1.heap.size (by have := (Array.getElem?_eq_some_iff.1 HI.out).1; rw [his]; exact this)).trans HIK.out
          have HK2 := Lib.hid hk2
          have HB2 := Lib.hid (HIB.out.trans (hw2.mono HIB.out.size))
          clear hk2 hw2
          go_wp2_with (fail)
          go_roundw
          case rel => exact ⟨i + 1, by omega, Lib.hid (fun j hj => by
            by_cases e : j = i
            · rw [e, HX.out]; exact H12.out
            · exact HN.out j (by omega)), HK2, HB2⟩
          case measure =>
            have : w2.iterPos w1.heap.size = i + 1 := by unfold World.iterPos; rw [HK2.out]
            rw [HP.out, this]; omega
      · obtain ⟨q1, q2, q3, q4, q5, q6⟩ := dec_hi l i hlt (by omega)
        have hnx := fun ty => Lib.run_next_any_at (P := Tryz.prog) wr w1.heap.size ⟨l.toArray⟩ i ty hk hsz'
        generalize Utf8.decode ⟨l.toArray⟩ i = d at *
        obtain ⟨r, m⟩ := d
        simp only at q1 q2 q3 q4 q5 q6 hnx
        have HIK := Lib.hid (Lib.iterAt_heap wr w1.heap.size ⟨l.toArray⟩ i (i + m) hk)
        have HIB := Lib.hid (Lib.below_iterAt HB.out (Nat.le_refl _) ⟨l.toArray⟩ (i + m))
        have his := Lib.iterAt_size wr w1.heap.size ⟨l.toArray⟩ (i + m)
        have HC : Hid (Calls Tryz.prog 82 #[.string ⟨#[47, 0]⟩, .int .i32 (r : Int)] (wr.iterAt w1.heap.size ⟨l.toArray⟩ (i + m)) (Ret (wr.iterAt w1.heap.size ⟨l.toArray⟩ (i + m)) (.int .i64 (-1)))) := by
          by_cases e : r = 65533
          · subst e; exact Lib.hid (IndexRune_fffd _)
          · exact Lib.hid (IndexRune_hi r _ (by omega) (by omega) (by omega) q3)
        have Q6 := Lib.hid q6
        clear q6 q3 hsz hk hb
        go_wp2_with (fail)
        refine HC.out.mono ?_
        rintro e w2 ⟨rfl, hw2⟩
        have hk2 := (hw2.block w1.heap.size (by have := (Array.getElem?_eq_some_iff.1 HI.out).1; rw [his]; exact this)).trans HIK.out
        have HK2 := Lib.hid hk2
        have HB2 := Lib.hid (HIB.out.trans (hw2.mono HIB.out.size))
        clear hk2 hw2
        go_wp2_with (fail)
        go_roundw
        case rel => exact ⟨i + m, by omega, Lib.hid (fun j hj => by
          by_cases e : j < i
          · exact HN.out j e
          · have := Q6.out j (by omega) hj
            exact ⟨fun e => by rw [e] at this; simp at this, fun e => by rw [e] at this; simp at this⟩), HK2, HB2⟩
        case measure =>
          have : w2.iterPos w1.heap.size = i + m := by unfold World.iterPos; rw [HK2.out]
          rw [HP.out, this]; omega
    · have hnx := fun ty => Lib.run_next_end_at (P := Tryz.prog) wr w1.heap.size ⟨l.toArray⟩ i ty hk (by omega)
      have HF := Lib.hid (anyM_none (l := l) (fun j hj => HN.out j (by omega)))
      clear hk hsz
      go_wp2_with (fail)
      go_ret
      exact ⟨-1, rfl, by rw [HF.out]; rfl, HB.out⟩
theorem indexAny_anyM (l : List UInt8) : decide (0 ≤ Lib.indexAny l [47, 0]) = anyM l := by
  induction l with
  | nil => rfl
  | cons b l ih =>
    have hge := Lib.indexAny_ge [47, 0] l
    have e : anyM (b :: l) = (b == 47 || b == 0 || anyM l) := by
      unfold anyM
      simp only [List.contains_cons]
      rw [show ((47 : UInt8) == b) = (b == 47) by rw [Bool.eq_iff_iff]; simp only [beq_iff_eq]; exact eq_comm, show ((0 : UInt8) == b) = (b == 0) by rw [Bool.eq_iff_iff]; simp only [beq_iff_eq]; exact eq_comm]
      cases (b == 47) <;> cases (b == 0) <;> cases l.contains 47 <;> cases l.contains 0 <;> rfl
    rw [e, ← ih]
    have hu : Lib.indexAny (b :: l) [47, 0] = if [47, 0].contains b then 0 else if Lib.indexAny l [47, 0] == -1 then -1 else Lib.indexAny l [47, 0] + 1 := rfl
    rw [hu]
    clear hu
    generalize Lib.indexAny l [47, 0] = x at *
    by_cases h1 : b = 47
    · subst h1; rfl
    · by_cases h2 : b = 0
      · subst h2; rfl
      · have h3 : [47, 0].contains b = false := by simp [h1, h2]
        have h4 : (b == 47) = false := by simpa using h1
        have h5 : (b == 0) = false := by simpa using h2
        rw [h3, h4, h5, Bool.or_self, Bool.false_or, if_neg (by decide)]
        by_cases h6 : x = -1
        · subst h6; rfl
        · rw [if_neg (by simpa using h6), decide_eq_true (by omega), decide_eq_true (by omega)]
theorem IndexAny_any (l : List UInt8) (w : World) (hl : l.length ≤ 4294967280) :
    Calls Tryz.prog 67 #[.string ⟨l.toArray⟩, .string ⟨#[47, 0]⟩] w (IdxOut w l) := by
  by_cases h8 : l.length ≤ 8
  · exact IndexAny_short l w h8
  · have hsz : (ByteArray.mk l.toArray).size = l.length := by simp [ByteArray.size]
    have h116 : (Tryz.prog.info? 80).map (fun i => (i.zero, i.size)) = some (some (.agg (Array.replicate 256 (.bool false))), 256) := by kernel_rfl
    refine (Tryz.strings_IndexAny_long (zero_of_info h116).1 ⟨l.toArray⟩ ⟨#[47, 0]⟩ w (by decide) (by omega) (by omega) (by decide) (fun j b hb => ?_)).mono ?_
    · match j, hb with
      | 0, hb => simp at hb; subst hb; decide
      | 1, hb => simp at hb; subst hb; decide
      | j + 2, hb => simp at hb
    · rintro e w' ⟨rfl, rfl⟩
      exact ⟨_, rfl, indexAny_anyM l, ((Below.refl _ _).alloc (Nat.le_refl _) _).alloc (by simp) _⟩
theorem ContainsAny_any (l : List UInt8) (w : World) (hl : l.length ≤ 4294967280) :
    Calls Tryz.prog 50 #[.string ⟨l.toArray⟩, .string ⟨#[47, 0]⟩] w (Ret w (.bool (anyM l))) := by
  have HC := Lib.hid (IndexAny_any l w hl)
  go_enter Tryz.func50, Tryz.ntmps50
  go_wp2_with (fail)
  refine HC.out.mono ?_
  rintro e w1 ⟨x, rfl, hx, hw⟩
  have HX := Lib.hid hx
  clear hx
  go_wp2_with (fail)
  go_ret
  exact ⟨by rw [← HX.out]; rfl, hw⟩
end Go.Proofs.YtgppfcaghjbjmaaGreatDoor
end

/- name.Name. -/
section
namespace Go.Proofs.YtgppfcaghjbjmaaGreatDoor
open Go.RowKit Plain

theorem nameOK_any (s : List UInt8) : nameOK s = (!s.isEmpty && decide (s.length ≤ 64) && !(s == [46]) && !(s == [46, 46]) && Lib.validD s && !anyM s) := by
  unfold nameOK anyM
  rw [Bool.not_or, ← Bool.and_assoc]

set_option maxHeartbeats 1000000 in
theorem Name_any (s : List UInt8) (w : World) (hT : Tabs w) :
    Calls Tryz.prog 34 #[.string ⟨s.toArray⟩] w (Ret w (.bool (nameOK s))) := by
  rw [nameOK_any]
  by_cases h1 : s.length ≤ 64
  · have hc1 : decide ((s.length : Int) ≤ 64) = true := by simp; omega
    have hc1' : decide (s.length ≤ 64) = true := by simp; omega
    rw [hc1']
    have HV := Lib.hid (ValidString_any s w (by omega) hT)
    have HA := Lib.hid (fun W => ContainsAny_any s W (by omega))
    generalize Lib.validD s = bv at *
    generalize anyM s = ba at *
    clear hc1'
    obtain ⟨b0, h0⟩ : ∃ b, s.isEmpty = b := ⟨_, rfl⟩
    obtain ⟨b2, h2⟩ : ∃ b, (s == [46]) = b := ⟨_, rfl⟩
    obtain ⟨b3, h3⟩ : ∃ b, (s == [46, 46]) = b := ⟨_, rfl⟩
    rw [h0, h2, h3]
    cases b0 with
    | true =>
      go_enter Tryz.func34, Tryz.ntmps34
      go_wp2_with (fail)
      go_ret
      exact ⟨rfl, Below.refl _ _⟩
    | false =>
      cases b2 with
      | true =>
        go_enter Tryz.func34, Tryz.ntmps34
        go_wp2_with (fail)
        go_ret
        exact ⟨rfl, Below.refl _ _⟩
      | false =>
        cases b3 with
        | true =>
          go_enter Tryz.func34, Tryz.ntmps34
          go_wp2_with (fail)
          go_ret
          exact ⟨rfl, Below.refl _ _⟩
        | false =>
          cases bv with
          | false =>
            go_enter Tryz.func34, Tryz.ntmps34
            go_wp2_with (fail)
            refine HV.out.mono ?_
            rintro e w1 ⟨rfl, hw1⟩
            go_wp2_with (fail)
            go_ret
            exact ⟨rfl, hw1⟩
          | true =>
            go_enter Tryz.func34, Tryz.ntmps34
            go_wp2_with (fail)
            refine HV.out.mono ?_
            rintro e w1 ⟨rfl, hw1⟩
            go_wp2_with (fail)
            refine (HA.out w1).mono ?_
            rintro e w2 ⟨rfl, hw2⟩
            go_wp2_with (fail)
            go_ret
            exact ⟨by simp, hw1.trans (hw2.mono hw1.size)⟩
  · have hc1 : decide ((s.length : Int) ≤ 64) = false := by simp; omega
    have hc1' : decide (s.length ≤ 64) = false := by simp; omega
    rw [hc1']
    have h0 : s.isEmpty = false := by cases s; simp at h1; rfl
    clear hc1'
    go_enter Tryz.func34, Tryz.ntmps34
    go_wp2_with (fail)
    go_ret
    exact ⟨by simp, Below.refl _ _⟩
end Go.Proofs.YtgppfcaghjbjmaaGreatDoor
end

/- strings.SplitSeq at '/': the iterator's walk. -/
section
namespace Go.Proofs.YtgppfcaghjbjmaaGreatDoor
open Go.RowKit Go.Shelf Plain
attribute [local go_sem] Oper.semAt_some

theorem ib_none {c : UInt8} {l : List UInt8} (h : c ∉ l) : Lib.indexByte l c = -1 := by
  induction l with
  | nil => rfl
  | cons b l ih =>
    simp only [List.mem_cons, not_or] at h
    unfold Lib.indexByte
    rw [if_neg (by simpa using fun e => h.1 e.symm), ih h.2]; rfl
theorem ib_first {c : UInt8} (p r : List UInt8) (h : c ∉ p) : Lib.indexByte (p ++ c :: r) c = p.length := by
  induction p with
  | nil => simp [Lib.indexByte]
  | cons b p ih =>
    simp only [List.mem_cons, not_or] at h
    rw [List.cons_append]
    unfold Lib.indexByte
    rw [if_neg (by simpa using fun e => h.1 e.symm), ih h.2, if_neg (by simp)]
    simp
def strLen (W : World) (b : Nat) : Nat := match W.cell? ⟨b, 0, none⟩ with | some (.string s) => s.size | _ => 0

set_option maxHeartbeats 2000000 in
theorem splitSeq1_in (n l bs bp bv base : Nat) (s : List UInt8) (J : List (List UInt8) → World → Prop) (Jx : List (List UInt8) → World → Prop) (hlen : s.length ≤ 4294967280)
    (hbs : bs < base) (hbp : bp < base) (hbv : bv < base) (hsp : bs ≠ bp) (hsv : bs ≠ bv)
    (hY : ∀ pre x W1, J pre W1 → YieldAt Fence.wide (n - 1) Tryz.prog l #[.string ⟨x.toArray⟩] W1 fun e W' =>
      (e = .returned (.bool true) ∧ J (pre ++ [x]) W' ∧ Below base W1 W') ∨ (e = .returned (.bool false) ∧ Jx (pre ++ [x]) W'))
    (hst : ∀ pre W v, J pre W → J pre (W.setCell ⟨bs, 0, none⟩ v))
    (W : World) (hcs : W.cell? ⟨bs, 0, none⟩ = some (.string ⟨s.toArray⟩)) (hcp : W.cell? ⟨bp, 0, none⟩ = some (.string ⟨#[47]⟩)) (hcv : W.cell? ⟨bv, 0, none⟩ = some (.int .i64 0))
    (hfs : W.frozen? ⟨bs, 0, none⟩ = false) (h0 : J [] W) :
    CallsIn Fence.wide n Tryz.prog 65 #[.func (.yield l) #[] #[], .pointer (some ⟨bp, 0, none⟩), .pointer (some ⟨bs, 0, none⟩), .pointer (some ⟨bv, 0, none⟩)] W fun e W' => (∃ v, e = .returned v) ∧ (J (parts s) W' ∨ ∃ pre, pre <+: parts s ∧ Jx pre W') := by
  have HJ := Lib.hid h0
  have HY := Lib.hid hY
  have HST := Lib.hid hst
  clear hY hst
  refine callsIn_of_wp Tryz.func65 rfl trivial ?_ rfl
  simp only [Tryz.ntmps65, List.size_toArray, List.length_cons, List.length_nil, Nat.reduceAdd, Nat.reduceSub, Array.replicate_succ, Array.replicate_zero, List.push_toArray, List.append_toArray, List.nil_append, List.cons_append]
  gi_wp2
  gi_loopw [7] (fun _ W' => ∃ (d : List (List UInt8)) (r : List UInt8), Hid (parts s = d ++ parts r) ∧ r.length ≤ s.length ∧ W'.cell? ⟨bs, 0, none⟩ = some (.string ⟨r.toArray⟩) ∧ W'.cell? ⟨bp, 0, none⟩ = some (.string ⟨#[47]⟩) ∧ W'.cell? ⟨bv, 0, none⟩ = some (.int .i64 0) ∧ W'.frozen? ⟨bs, 0, none⟩ = false ∧ Hid (J d W')) (fun _ W' => strLen W' bs)
  case atStart => exact ⟨[], s, Lib.hid rfl, Nat.le_refl _, hcs, hcp, hcv, hfs, HJ⟩
  case round =>
    clear hcs hcp hcv hfs HJ h0
    obtain ⟨d, r, HP, hrl, hcs, hcp, hcv, hfs, HJ⟩ := hrel
    by_cases hm : 47 ∈ r
    · obtain ⟨p, q, rfl, hp⟩ := first_c r hm
      have HI := Lib.hid (Tryz.strings_Index_one ⟨(p ++ 47 :: q).toArray⟩ 47 wr)
      rw [show (ByteArray.mk (p ++ 47 :: q).toArray).data.toList = p ++ 47 :: q from rfl, ib_first p q hp] at HI
      have hy := HY.out d p wr HJ.out
      obtain ⟨fn, tmps, assign, body, hy, hR⟩ := hy
      have HR := Lib.hid hR
      have HPP := Lib.hid (parts_first p q hp)
      have hsl : strLen wr bs = (p ++ 47 :: q).length := by unfold strLen; rw [hcs]; simp [ByteArray.size]
      have HSL := Lib.hid hsl
      have hle : p.length + 1 + q.length ≤ s.length := by simp at hrl; omega
      have ht : ((p ++ 47 :: q).drop 0).take (p.length - 0) = p := by simp
      have htt : (p ++ 47 :: q).take p.length = p := by simp
      have hdd : (p ++ 47 :: q).drop (p.length + 1) = q := by rw [← List.drop_drop, List.drop_left' rfl]; rfl
      have htq : q.take (p.length + (q.length + 1) - (p.length + 1)) = q := List.take_of_length_le (by omega)
      have hdn : decide ((p.length : Int) < 0) = false := by simp
      clear hR hsl hm hp
      gi_wp2
      refine ⟨trivial, fun h => (by cases h), (callsIn_wide.2 HI.out).mono ?_⟩
      rintro e w' ⟨rfl, rfl⟩
      gi_wp2
      refine ⟨fun h => (by cases h), HR.out.mono ?_⟩
      rintro e W3 (⟨rfl, hJ3, hk3⟩ | ⟨rfl, hJx3⟩)
      · have hcs3 := (hk3.cell (p := ⟨bs, 0, none⟩) hbs).trans hcs
        have hcp3 := (hk3.cell (p := ⟨bp, 0, none⟩) hbp).trans hcp
        have hcv3 := (hk3.cell (p := ⟨bv, 0, none⟩) hbv).trans hcv
        have hfs3 := (hk3.frozen (p := ⟨bs, 0, none⟩) hbs).trans hfs
        have HJ3 := Lib.hid hJ3
        clear hJ3 hk3 hcs hcp hcv hfs hy
        gi_wp2
        go_roundw
        case rel =>
          refine ⟨d ++ [p], q, Lib.hid (by rw [HP.out, HPP.out]; simp), by omega, World.cell?_setCell_same' _ _ _ (by rw [hcs3]; rfl), ?_, ?_, ?_, Lib.hid (HST.out _ _ _ HJ3.out)⟩
          · rw [World.cell?_setCell_other _ _ _ _ (by intro e; injection e with e; exact hsp e)]; exact hcp3
          · rw [World.cell?_setCell_other _ _ _ _ (by intro e; injection e with e; exact hsv e)]; exact hcv3
          · rw [World.frozen?_setCell]; exact hfs3
        case measure =>
          rw [HSL.out]
          unfold strLen
          rw [World.cell?_setCell_same' _ _ _ (by rw [hcs3]; rfl)]
          simp [ByteArray.size]
          omega
      · gi_wp2
        refine bodyPost_ret (results_none rfl _ _ _) rfl ?_
        exact ⟨⟨_, rfl⟩, .inr ⟨_, ⟨parts q, by rw [HP.out, HPP.out]; simp⟩, hJx3⟩⟩
    · have HI := Lib.hid (Tryz.strings_Index_one ⟨r.toArray⟩ 47 wr)
      rw [show (ByteArray.mk r.toArray).data.toList = r from rfl, ib_none hm] at HI
      have hy := HY.out d r wr HJ.out
      obtain ⟨fn, tmps, assign, body, hy, hR⟩ := hy
      have HR := Lib.hid hR
      have HPP := Lib.hid (parts_none r hm)
      clear hR hm
      gi_wp2
      refine ⟨trivial, fun h => (by cases h), (callsIn_wide.2 HI.out).mono ?_⟩
      rintro e w' ⟨rfl, rfl⟩
      gi_wp2
      refine ⟨fun h => (by cases h), HR.out.mono ?_⟩
      rintro e W3 (⟨rfl, hJ3, hk3⟩ | ⟨rfl, hJx3⟩)
      · gi_wp2
        go_end0
        exact ⟨⟨_, rfl⟩, .inl (by rw [HP.out, HPP.out]; exact hJ3)⟩
      · gi_wp2
        go_end0
        exact ⟨⟨_, rfl⟩, .inr ⟨_, ⟨[], by rw [HP.out, HPP.out]; simp⟩, hJx3⟩⟩

theorem SplitSeq_any (s : List UInt8) (w : World) :
    Calls Tryz.prog 33 #[.string ⟨s.toArray⟩, .string ⟨#[47]⟩] w fun e w' =>
      e = .returned (.func (.func 65) #[] #[.pointer (some ⟨w.heap.size + 1, 0, none⟩), .pointer (some ⟨w.heap.size, 0, none⟩), .pointer (some ⟨w.heap.size + 2, 0, none⟩)]) ∧
      w' = ((w.alloc (.cells #[.string ⟨s.toArray⟩] 9)).alloc (.cells #[.string ⟨#[47]⟩] 9)).alloc (.cells #[.int .i64 0] 3) := by
  have h1 : Calls Tryz.prog 48 #[.string ⟨s.toArray⟩, .string ⟨#[47]⟩, .int .i64 0] w fun e w' =>
      e = .returned (.func (.func 65) #[] #[.pointer (some ⟨w.heap.size + 1, 0, none⟩), .pointer (some ⟨w.heap.size, 0, none⟩), .pointer (some ⟨w.heap.size + 2, 0, none⟩)]) ∧
      w' = ((w.alloc (.cells #[.string ⟨s.toArray⟩] 9)).alloc (.cells #[.string ⟨#[47]⟩] 9)).alloc (.cells #[.int .i64 0] 3) := by
    go_enter Tryz.func48, Tryz.ntmps48
    go_wp2_with (fail)
    go_ret
    exact ⟨rfl, rfl⟩
  have H1 := Lib.hid h1
  clear h1
  go_enter Tryz.func33, Tryz.ntmps33
  go_wp2_with (fail)
  refine H1.out.mono ?_
  rintro e w1 ⟨rfl, rfl⟩
  go_wp2_with (fail)
  go_ret
  exact ⟨rfl, rfl⟩
end Go.Proofs.YtgppfcaghjbjmaaGreatDoor
end

/- A range over a function whose iterator keeps cells of its own: how the statement is walked at the wide fence. -/
section
namespace Go.Proofs.YtgppfcaghjbjmaaGreatDoor
open Go.RowKit

/-- How a round's body may be left. -/
def ownRound {α : Type} (B : Nat) (I Ix : List α → World → Prop) (xs : List α) (W : World) : Exit → Act → World → Prop
  | .normal, _, W' => (∀ k, B ≤ k → k < W.heap.size → W'.heap[k]? = W.heap[k]?) ∧ Below B W W' ∧ I xs W'
  | .ret, _, W' => (∀ k, B ≤ k → k < W.heap.size → W'.heap[k]? = W.heap[k]?) ∧ Ix xs W'
  | _, _, _ => False

theorem below_put {B : Nat} {a w : World} (h : Below B a w) {l : Nat} (hl : B ≤ l) (o : Obj) : Below B a (w.putObj l o) :=
  ⟨h.os, h.tape, h.output, by rw [World.putObj_size]; exact h.size, fun k hk => (World.putObj_heap_other (by omega)).trans (h.block k hk)⟩

theorem rangeFunc_own {α : Type} {n : Nat} {P : Program} {g : Operand} {ps : Array Tmp} {assign body : Code} {Q : Exit → Act → World → Prop} {a : Act} {w : World}
    {gf : Nat} {lb : Array Value} (hg : a.eval g = .func (.func gf) #[] lb) (eg : ∀ args w, (callFunc gf args).run P w = .ok (.enter gf args) w)
    {encs : α → Array Value} (hps : ∀ x, (encs x).size = ps.size) (all : List α) (I Ix : List α → World → Prop) (bs : Nat) (hbs : bs < w.heap.size)
    (hseq : ∀ (l : Nat) (J Jx : List α → World → Prop) (W : World), (∀ k, k < w.heap.size → W.heap[k]? = w.heap[k]?) → (∀ pre W v, J pre W → J pre (W.setCell ⟨bs, 0, none⟩ v)) →
      (∀ pre x W1, J pre W1 → YieldAt Fence.wide (n - 1 - 1) P l (encs x) W1 fun e W' =>
        (e = .returned (.bool true) ∧ J (pre ++ [x]) W' ∧ Below w.heap.size W1 W') ∨ (e = .returned (.bool false) ∧ Jx (pre ++ [x]) W')) → J [] W →
      CallsIn Fence.wide (n - 1) P gf (#[.func (.yield l) #[] #[]] ++ lb) W fun e W' => (∃ v, e = .returned v) ∧ (J all W' ∨ ∃ pre, pre <+: all ∧ Jx pre W'))
    (hIst : ∀ pre W v, I pre W → I pre (W.setCell ⟨bs, 0, none⟩ v))
    (hIput : ∀ pre W l o, w.heap.size ≤ l → I pre W → I pre (W.putObj l o)) (hXput : ∀ pre W l o, w.heap.size ≤ l → Ix pre W → Ix pre (W.putObj l o))
    (h0 : ∀ o1 o2, I [] ((w.alloc o1).alloc o2)) (a₁ : α → Act)
    (hassign : ∀ (l : Nat) (x : α) (W : World) (K : Act → World → Prop), K (a₁ x) W →
      assign.wpIn (Fence.wide.inRound l) (n - 1 - 1) P (Exit.then K (fun _ _ _ => False)) { tmps := (ps.zip (encs x)).foldl (fun t (p, v) => t.setIfInBounds p v) a.tmps, defers := [] } W)
    (hbody : ∀ (l : Nat) (pre : List α) (x : α) (W : World), I pre W → w.heap.size < W.heap.size → body.wpIn (Fence.wide.inRound l) (n - 1 - 1) P (ownRound w.heap.size I Ix (pre ++ [x]) W) (a₁ x) W)
    (hdone : ∀ (W : World), I all W → W.heap[w.heap.size]? = some (.deferred (some [])) → Q .normal { a with defers := { target := .collected w.heap.size, args := #[] } :: a.defers } W)
    (hstop : ∀ (pre : List α) (W : World), pre <+: all → Ix pre W → W.heap[w.heap.size]? = some (.deferred (some [])) → Code.ret.wpIn Fence.wide n P Q { a with defers := { target := .collected w.heap.size, args := #[] } :: a.defers } W) :
    (Code.rangeFunc g ps assign body).wpIn Fence.wide n P Q a w := by
  refine wpIn_rangeFunc ?_
  intro fn hfn
  obtain ⟨rec, hrec⟩ : ∃ rec : LoopState → Option Code → Loop, rec = fun st pe => { state := st, pending := pe, fn, tmps := a.tmps, params := ps, assign, body, defers := w.heap.size } := ⟨_, rfl⟩
  obtain ⟨W1, hW1⟩ : ∃ W1, (w.alloc (.deferred (some []))).alloc (.loop (rec .ready none)) = W1 := ⟨_, rfl⟩
  have hL1 : W1.heap[w.heap.size + 1]? = some (.loop (rec .ready none)) := by
    rw [← hW1]; have := World.alloc_heap_new (w.alloc (.deferred (some []))) (.loop (rec .ready none)); rwa [World.size_alloc] at this
  have hK1 : W1.heap[w.heap.size]? = some (.deferred (some [])) := by
    rw [← hW1]; exact (Below.heap_alloc _ _ _ (by simp)).trans (World.alloc_heap_new w _)
  have hold : ∀ k, k < w.heap.size → W1.heap[k]? = w.heap[k]? := fun k hk => by
    rw [← hW1]; exact (Below.heap_alloc _ _ _ (by simp; omega)).trans (Below.heap_alloc _ _ _ hk)
  refine ⟨w.heap.size + 1, [{ target := .collected w.heap.size, args := #[] }], W1, { target := .fn (.func gf) lb, args := #[.func (.yield (w.heap.size + 1)) #[] #[]] }, W1, gf,
    #[.func (.yield (w.heap.size + 1)) #[] #[]] ++ lb, W1, ?_, ?_, ?_, ?_, fun h => (by cases h), ?_⟩
  · rw [← hW1, hrec]; exact run_enterLoop_outer _ _ _ _ _
  · simp only [resolve, hg]
    simp [go_sem]
  · intro f' hf'; trivial
  · simp [invoke, go_sem, eg]
  · have hown : ∀ (pre : List α) (W : World) (v : Value), (I pre W ∧ W.heap[w.heap.size + 1]? = some (.loop (rec .ready none)) ∧ W.heap[w.heap.size]? = some (.deferred (some []))) →
        (I pre (W.setCell ⟨bs, 0, none⟩ v) ∧ (W.setCell ⟨bs, 0, none⟩ v).heap[w.heap.size + 1]? = some (.loop (rec .ready none)) ∧ (W.setCell ⟨bs, 0, none⟩ v).heap[w.heap.size]? = some (.deferred (some []))) :=
      fun pre W v ⟨h1, h2, h3⟩ => ⟨hIst _ _ _ h1, (Below.heap_setCell _ _ _ _ (by show w.heap.size + 1 ≠ bs; omega)).trans h2, (Below.heap_setCell _ _ _ _ (by show w.heap.size ≠ bs; omega)).trans h3⟩
    refine (hseq (w.heap.size + 1) (fun pre W => I pre W ∧ W.heap[w.heap.size + 1]? = some (.loop (rec .ready none)) ∧ W.heap[w.heap.size]? = some (.deferred (some []))) (fun pre W => Ix pre W ∧ W.heap[w.heap.size + 1]? = some (.loop (rec .done (some .ret))) ∧ W.heap[w.heap.size]? = some (.deferred (some []))) W1 hold hown ?_ (by have h00 := h0 (.deferred (some [])) (.loop (rec .ready none)); rw [hW1] at h00; exact ⟨h00, hL1, hK1⟩)).mono ?_
    · rintro pre x W ⟨hi, hl, hk⟩
      have hlt : w.heap.size + 1 < W.heap.size := (Array.getElem?_eq_some_iff.1 hl).1
      have hy := run_yield (P := P) (args := encs x) hl (by rw [hrec]; exact hps x)
      rw [hrec] at hy
      refine ⟨fn, _, assign, body, hy, roundIn_of_wpIn hfn (hassign _ x W _ ⟨_, run_beginRound hl (by rw [hrec]), ?_⟩)⟩
      have hl2 : (W.putObj (w.heap.size + 1) (.loop { rec .ready none with state := .busy })).heap[w.heap.size + 1]? = some (.loop { rec .ready none with state := .busy }) := World.putObj_heap_same hlt
      have hk2 : (W.putObj (w.heap.size + 1) (.loop { rec .ready none with state := .busy })).heap[w.heap.size]? = some (.deferred (some [])) := (World.putObj_heap_other (by omega)).trans hk
      have hs2 : (W.putObj (w.heap.size + 1) (.loop { rec .ready none with state := .busy })).heap.size = W.heap.size := World.putObj_size
      refine wpIn_mono (hbody _ pre x _ (hIput _ _ _ _ (by omega) hi) (by rw [hs2]; omega)) ?_
      have fin : ∀ (jump : Option Code) (W3 : World), (∀ k, w.heap.size ≤ k → k < (W.putObj (w.heap.size + 1) (.loop { rec .ready none with state := .busy })).heap.size → W3.heap[k]? = (W.putObj (w.heap.size + 1) (.loop { rec .ready none with state := .busy })).heap[k]?) →
          (Instr.endRound (w.heap.size + 1) jump).run P W3 = .ok (.bool jump.isNone) (W3.putObj (w.heap.size + 1) (.loop (rec (if jump.isNone then .ready else .done) jump))) ∧
          (W3.putObj (w.heap.size + 1) (.loop (rec (if jump.isNone then .ready else .done) jump))).heap[w.heap.size + 1]? = some (.loop (rec (if jump.isNone then .ready else .done) jump)) ∧
          (W3.putObj (w.heap.size + 1) (.loop (rec (if jump.isNone then .ready else .done) jump))).heap[w.heap.size]? = some (.deferred (some [])) := fun jump W3 hk3 => by
        have hl3 := (hk3 (w.heap.size + 1) (by omega) (by rw [hs2]; omega)).trans hl2
        have := run_endRound (P := P) jump hl3
        rw [hrec] at this ⊢
        exact ⟨this, World.putObj_heap_same (Array.getElem?_eq_some_iff.1 hl3).1, (World.putObj_heap_other (by omega)).trans ((hk3 w.heap.size (Nat.le_refl _) (by rw [hs2]; omega)).trans hk2)⟩
      rintro e a3 W3 hp
      cases e with
      | normal =>
        obtain ⟨hk3, hb3, hi3⟩ := hp
        obtain ⟨hr, hl4, hk4⟩ := fin none W3 hk3
        exact ⟨_, _, hr, .inl ⟨rfl, ⟨hIput _ _ _ _ (by omega) hi3, hl4, hk4⟩, below_put ((below_put (Below.refl _ W) (by omega) _).trans hb3) (by omega) _⟩⟩
      | ret =>
        obtain ⟨hk3, hi3⟩ := hp
        obtain ⟨hr, hl4, hk4⟩ := fin (some .ret) W3 hk3
        exact ⟨_, _, hr, .inr ⟨rfl, hXput _ _ _ _ (by omega) hi3, hl4, hk4⟩⟩
      | exit id => exact hp.elim
      | goto t => exact hp.elim
      | panic ch => exact hp.elim
      | outgrown => exact hp.elim
    · rintro e W2 ⟨⟨v, rfl⟩, (⟨hi, hl, hk⟩ | ⟨pre, hpre, hi, hl, hk⟩)⟩
      · exact ⟨none, _, by have := run_endLoop (P := P) hl (by rw [hrec]; simp); rw [hrec] at this; exact this, hdone _ (hIput _ _ _ _ (by omega) hi) ((World.putObj_heap_other (by omega)).trans hk)⟩
      · exact ⟨some .ret, _, by have := run_endLoop (P := P) hl (by rw [hrec]; simp); rw [hrec] at this; exact this, hstop pre _ hpre (hXput _ _ _ _ (by omega) hi) ((World.putObj_heap_other (by omega)).trans hk)⟩
end Go.Proofs.YtgppfcaghjbjmaaGreatDoor
end
