/- Texts joined: Rec3, HeldLast, Arch5. -/
import Derived.Test.YtjajoiahgfafgaaGreatDoorBArchBares10
import Derived.Deep.RegionHeld
import Derived.StillTail
import Derived.Test.YtjajoiahgfafgaaGreatDoorBArchBares9
import Derived.Test.YtjajoiahgfafgaaGreatDoorBCodeBaseC2
import Derived.Test.YtjajoiahgfafgaaGreatDoorBArchBares4
import Derived.Deep.AppendLies
import Derived.Deep.RegionHeld3
set_option linter.unusedSimpArgs false
set_option linter.unusedVariables false

/- The document's records: what each function answers. -/
section
namespace Go.Proofs.YtjajoiahgfafgaaGreatDoor
open Go.RowKit Plain

set_option maxHeartbeats 400000 in
theorem Pack_ref1 (p : List UInt8) (w : World) (hp : p.length ≤ 1048576) :
    Calls Tryz.prog 41 #[.string ⟨p.toArray⟩] w (Ret w (.tuple #[.string ⟨(record p).toArray⟩, .int .i64 0])) := by
  have hl := crc_lt (four p.length ++ p)
  have hf : (four p.length).length = 4 := rfl
  have hf2 : (four (crc (four p.length ++ p))).length = 4 := rfl
  go_enter Tryz.func41, Tryz.ntmps41
  go_wp2_with (fail)
  refine (Ret.quiet (Below.refl _ _) (four_ref _ _ (by omega))).mono ?_
  rintro e w1 ⟨rfl, hb1⟩
  go_wp2_with (fail)
  refine (Ret.quiet (hb1) (Crc_ref _ _ (by simp; omega))).mono ?_
  rintro e w2 ⟨rfl, hb2⟩
  go_wp2_with (fail)
  refine (Ret.quiet (hb2) (four_ref _ _ hl)).mono ?_
  rintro e w3 ⟨rfl, hb3⟩
  go_wp2_with (fail)
  go_ret2
  refine ⟨?_, hb3⟩
  simp [record]
set_option maxHeartbeats 400000 in
theorem Pack_ref2 (p : List UInt8) (w : World) (hs : p.length ≤ 9223372036854775807) (hp : 1048576 < p.length) :
    Calls Tryz.prog 41 #[.string ⟨p.toArray⟩] w (Ret w (.tuple #[.string ⟨#[]⟩, .int .i64 32])) := by
  go_enter Tryz.func41, Tryz.ntmps41
  go_wp2_with (fail)
  go_ret2
  exact ⟨rfl, Below.refl _ _⟩

theorem Pack_ref (p : List UInt8) (w : World) (hs : p.length ≤ 9223372036854775807) :
    Calls Tryz.prog 41 #[.string ⟨p.toArray⟩] w (Ret w (.tuple #[.string ⟨(pack p).1.toArray⟩, .int .i64 (pack p).2])) := by
  rcases Nat.lt_or_ge 1048576 p.length with h | h
  · rw [pack_more h]; exact Pack_ref2 p w hs h
  · rw [pack_ok h]; exact Pack_ref1 p w h

set_option maxHeartbeats 400000 in
theorem Next_ref (s : List UInt8) (w : World)  (hs : s.length ≤ 9223372036854775807) :
    Calls Tryz.prog 61 #[.string ⟨s.toArray⟩] w (Ret w (.tuple #[.string ⟨(next s).1.toArray⟩, .string ⟨(next s).2.1.toArray⟩, .int .i64 (next s).2.2])) := by
  have hn := num_lt s
  go_enter Tryz.func61, Tryz.ntmps61
  go_wp2_with (fail)
  · go_ret3
    refine ⟨?_, Below.refl _ _⟩
    rw [next_short (by omega)]
    rfl
  refine (Ret.quiet (Below.refl _ _) (number_ref s 0 _ (by omega) (by omega))).mono ?_
  rintro e w1 ⟨rfl, hb1⟩
  go_wp2_with (fail)
  · go_ret3
    refine ⟨?_, hb1⟩
    rw [next_more (by omega) (by omega)]
    rfl
  · go_ret3
    refine ⟨?_, hb1⟩
    rw [next_cut (by omega) (by omega) (by omega)]
    rfl
  have l1 : (List.take 4 s ++ List.take (num s) (List.drop 8 s)).length = 4 + num s := by simp; omega
  have l2 : (4 : Int) ≤ s.length := by omega
  have l3 : 8 + num s - 8 = num s := by omega
  by_cases h3 : num (s.drop 4) = crc (s.take 4 ++ (s.drop 8).take (num s))
  · have hB : ((num (s.drop 4) : Int) != (crc (s.take 4 ++ (s.drop 8).take (num s)) : Int)) = false := by rw [h3]; simp
    have H3 := Lib.hid h3
    clear h3
    refine wp_region_below (by kernel_rfl) (by kernel_rfl) ?_
    repeat (go_big_quiet_step ((intro hW; first | (go_at_call 90; exact Ret.quiet hW (number_ref s 4 _ (by omega) (by omega))) | (go_at_call 69; exact Ret.quiet hW (Crc_ref _ _ (by simp; omega))))))
    refine wpQuiet_nil ?_
    intro W3 hW3
    go_wp2_with (fail)
    have k1 : IntKind.i64.wrap (8 + (num s : Int)) = 8 + (num s : Int) := IntWalk.i64_in _ (by omega)
    have z1 : (0 : Int) ≤ 8 + (num s : Int) := by omega
    refine wp_region_below (by kernel_rfl) (by kernel_rfl) ?_
    repeat (go_big_quiet_step (fail))
    refine wpQuiet_nil ?_
    intro W4 hW4
    go_wp2_with (fail)
    go_ret3
    refine ⟨?_, (hb1.trans (hW3.mono hb1.size)).trans (hW4.mono (Nat.le_trans hb1.size hW3.size))⟩
    rw [next_ok (by omega) (by omega) (by omega) H3.out]
    simp only [Array.getD_eq_getD_getElem?, List.getElem?_toArray, List.getElem?_cons_succ, List.getElem?_cons_zero, Option.getD_some, Nat.add_sub_cancel_left]
    rfl
  · have hB : ((num (s.drop 4) : Int) != (crc (s.take 4 ++ (s.drop 8).take (num s)) : Int)) = true := by simpa using (by omega : (num (s.drop 4) : Int) ≠ (crc (s.take 4 ++ (s.drop 8).take (num s)) : Int))
    have H3 := Lib.hid h3
    clear h3
    refine wp_region_below (by kernel_rfl) (by kernel_rfl) ?_
    repeat (go_big_quiet_step ((intro hW; first | (go_at_call 90; exact Ret.quiet hW (number_ref s 4 _ (by omega) (by omega))) | (go_at_call 69; exact Ret.quiet hW (Crc_ref _ _ (by simp; omega))))))
    refine wpQuiet_nil ?_
    intro W3 hW3
    go_wp2_with (fail)
    go_ret3
    refine ⟨?_, hb1.trans (hW3.mono hb1.size)⟩
    rw [next_sum (by omega) (by omega) (by omega) H3.out]
    rfl

set_option maxHeartbeats 400000 in
theorem One_any (s : List UInt8) (w : World)  (hs : s.length ≤ 9223372036854775807) :
    Calls Tryz.prog 23 #[.string ⟨s.toArray⟩] w (Ret w (.tuple #[.string ⟨(one s).1.toArray⟩, .int .i64 (one s).2])) := by
  go_enter Tryz.func23, Tryz.ntmps23
  go_wp2_with (fail)
  refine (Ret.quiet (Below.refl _ _) (Next_any s _ hs)).mono ?_
  rintro e w1 ⟨rfl, hb1⟩
  go_wp2_with (fail)
  · go_ret2
    refine ⟨?_, hb1⟩
    rw [one_more (by assumption)]
    rfl
  · go_ret2
    refine ⟨?_, hb1⟩
    rw [one_ok (by assumption)]
    rfl
set_option maxHeartbeats 400000 in
theorem One_ref (s : List UInt8) (w : World)  (hs : s.length ≤ 9223372036854775807) :
    Calls Tryz.prog 29 #[.string ⟨s.toArray⟩] w (Ret w (.tuple #[.string ⟨(one s).1.toArray⟩, .int .i64 (one s).2])) := by
  by_cases he : (next s).2.2 = 0
  · have hB : (((next s).2.2 : Int) == 0) = true := by rw [he]; rfl
    have HE := Lib.hid he
    clear he
    go_enter Tryz.func29, Tryz.ntmps29
    go_wp2_with (fail)
    refine (Ret.quiet (Below.refl _ _) (Next_ref s _ hs)).mono ?_
    rintro e w1 ⟨rfl, hb1⟩
    go_wp2_with (fail)
    · go_ret2
      refine ⟨?_, hb1⟩
      rw [one_more (by assumption)]
      rfl
    · go_ret2
      refine ⟨?_, hb1⟩
      rw [one_ok (by assumption)]
      rfl
  · have hB : (((next s).2.2 : Int) == 0) = false := by simpa using (by omega : ((next s).2.2 : Int) ≠ 0)
    go_enter Tryz.func29, Tryz.ntmps29
    go_wp2_with (fail)
    refine (Ret.quiet (Below.refl _ _) (Next_ref s _ hs)).mono ?_
    rintro e w1 ⟨rfl, hb1⟩
    go_wp2_with (fail)
    go_ret2
    refine ⟨?_, hb1⟩
    rw [one_ok (by rw [(next_err s he).2]; rfl)]
    rfl
end Go.Proofs.YtjajoiahgfafgaaGreatDoor
end

/- A region that draws its order: a condition on the world that holds behind each operation but the last one, which turns what the condition tells. -/
section
namespace Go.Proofs.YtjajoiahgfafgaaGreatDoor
open Go

section
variable {P : Program} {ops : Array Oper} {Q : Exit → Act → World → Prop} {md : Region.Mode} {S : World → Prop} {n : Nat}

def wpAnyN (P : Program) (md : Region.Mode) (ops : Array Oper) (Q : Exit → Act → World → Prop) (S : World → Prop) (n : Nat) : Nat → Array Bool → Act → World → Prop
  | 0, listed, a, w => Region.ready md ops listed = [] ∧ Q .normal a w
  | fuel + 1, listed, a, w =>
    (Region.ready md ops listed = [] → Q .normal a w) ∧
    ∀ i ∈ Region.ready md ops listed, wpOp P ops Q i (fun a' w' => (i ≠ n → S w') ∧ wpAnyN P md ops Q S n fuel (listed.setIfInBounds i true) a' w') a w

theorem wpAny_of_heldN : ∀ (fuel : Nat) (listed : Array Bool) (a : Act) (w : World), wpAnyN P md ops Q S n fuel listed a w → wpAny P md ops Q fuel listed a w
  | 0, _, _, _, h => h
  | fuel + 1, _, _, _, h => ⟨h.1, fun i hi => wpOp_mono (fun a' w' h' => wpAny_of_heldN fuel _ a' w' h'.2) (h.2 i hi)⟩

theorem wpAnyN_first {i : Nat} {oi : Oper} {v : Value} (hi : ops[i]? = some oi) (hwait : Region.waitsFor md ops n i = true) (hsel : ∀ (j : Nat) (o : Oper) cs b, ops[j]? = some o → o.op ≠ .select cs b)
    (hQ : ∀ c a w, Q (.panic c) (a.put oi.dst v) w → Q (.panic c) a w) :
    ∀ (fuel : Nat) (listed : Array Bool) (a : Act) (w : World),
      (∀ j oj, ops[j]? = some oj → j ≠ i → listed.getD j true = false → (∀ e ∈ oj.after, Region.binds md e = true → e.on ≠ i) → oi.apart ops oj = true) →
      i ∈ Region.ready md ops listed → YieldsIf P ops S oi v a → S w →
      wpAnyN P md ops Q S n fuel (listed.setIfInBounds i true) (a.put oi.dst v) w → wpAnyN P md ops Q S n (fuel + 1) listed a w := by
  intro fuel
  induction fuel with
  | zero =>
    intro listed a w _ hr hy hS H
    refine ⟨fun h => (by rw [h] at hr; cases hr), fun j hj => ?_⟩
    by_cases hji : j = i
    · subst hji; exact hy.wpOp hi hS ⟨fun _ => hS, H⟩
    · have := ready_mono hj hji
      rw [H.1] at this
      cases this
  | succ fuel ih =>
    intro listed a w hfree hr hy hS H
    refine ⟨fun h => (by rw [h] at hr; cases hr), fun j hj => ?_⟩
    by_cases hji : j = i
    · subst hji; exact hy.wpOp hi hS ⟨fun _ => hS, H⟩
    · have h1 := H.2 j (ready_mono hj hji)
      obtain ⟨hjun, oj, hoj, hall⟩ := mem_ready.1 hj
      have hnot : ∀ e ∈ oj.after, Region.binds md e = true → e.on ≠ i := fun e he hb heq => by
        have h1 := hall e he hb
        have h0 := (mem_ready.1 hr).1
        rw [heq] at h1
        rcases Nat.lt_or_ge i listed.size with h' | h'
        · simp [h'] at h0 h1; rw [h0] at h1; cases h1
        · simp [Array.getElem?_eq_none h'] at h1
      have hjn : j ≠ n := by
        rintro rfl
        obtain ⟨o', ho', e, he, hb, hon⟩ := Region.waitsFor_spec hwait
        have : o' = oj := Option.some.inj (ho'.symm.trans hoj)
        subst this
        exact hnot e he hb hon
      have h2 := wpOp_putIf hoj (hfree j oj hoj hji hjun hnot) (fun cs b => hsel i oi cs b hi) (fun cs b => hsel j oj cs b hoj) hQ hy h1
      have hfree' : ∀ k ok, ops[k]? = some ok → k ≠ i → (listed.setIfInBounds j true).getD k true = false →
          (∀ e ∈ ok.after, Region.binds md e = true → e.on ≠ i) → oi.apart ops ok = true := fun k ok hk hki hun hno => by
        refine hfree k ok hk hki ?_ hno
        by_cases hjk : j = k
        · subst hjk; exact hjun
        · rw [getD_set_ne true hjk] at hun; exact hun
      refine wpOp_mono (fun a' w' h3 => ⟨h3.2.1, ih (listed.setIfInBounds j true) a' w' hfree' (ready_mono hr (Ne.symm hji)) h3.1 (h3.2.1 hjn) ?_⟩) h2
      rw [Array.setIfInBounds_comm _ _ hji]
      exact h3.2.2

theorem wpAnyN_take {i : Nat} {oi : Oper} {v : Value} {fuel : Nat} {listed : Array Bool} {a : Act} {w : World} (hi : ops[i]? = some oi) (hwait : Region.waitsFor md ops n i = true)
    (hs : Region.noSelect ops = true) (hf : Region.free md ops listed i = true) (hr : (Region.ready md ops listed).contains i = true)
    (hQ : ∀ c a w, Q (.panic c) (a.put oi.dst v) w → Q (.panic c) a w) (hy : YieldsIf P ops S oi v a) (hS : S w)
    (h : wpAnyN P md ops Q S n fuel (listed.setIfInBounds i true) (a.put oi.dst v) w) : wpAnyN P md ops Q S n (fuel + 1) listed a w :=
  wpAnyN_first hi hwait (Region.noSelect_spec hs) hQ fuel listed a w (Region.free_spec hi hf) (by simpa using hr) hy hS h

theorem wpAnyN_done {listed : Array Bool} {a : Act} {w : World} (hr : Region.ready md ops listed = []) (h : Q .normal a w) :
    ∀ fuel, wpAnyN P md ops Q S n fuel listed a w
  | 0 => ⟨hr, h⟩
  | _ + 1 => ⟨fun _ => h, by rw [hr]; simp⟩

theorem wp_region_heldN {id : Nat} {a : Act} {w : World} (n : Nat) (hm : P.follows .mixedOrders = true) (hS : S w.drew)
    (h : S w.drew → wpAnyN P .any ops Q S n ops.size (Array.replicate ops.size false) a w.drew) : (Code.region id ops true).wp P Q a w :=
  wp_region_any hm (wpAny_of_heldN _ _ _ _ (h hS))

/-- The one operation that comes up next; it is not the last. -/
theorem wpAnyN_one {i : Nat} {o : Oper} {fuel : Nat} {listed : Array Bool} {a : Act} {w : World} (hr : Region.ready md ops listed = [i]) (ho : ops[i]? = some o)
    (h : ∀ K' : Act → World → Prop, Shut (∀ a w, S w → (S w → wpAnyN P md ops Q S n fuel (listed.setIfInBounds i true) a w) → K' a w) → if Region.wanted o (yielded ops a.tmps) = true then Oper.wp P o a w K' Q else K' (a.put o.dst undef) w) :
    wpAnyN P md ops Q S n (fuel + 1) listed a w := by
  refine ⟨fun h0 => absurd (hr ▸ h0) (by simp), ?_⟩
  rw [hr]
  intro j hj
  obtain rfl : j = i := by simpa using hj
  exact wpOp_step ho (fun K' hK => h K' (fun a w hS hW => hK a w ⟨fun _ => hS, hW hS⟩))
/-- The last one. -/
theorem wpAnyN_last {o : Oper} {fuel : Nat} {listed : Array Bool} {a : Act} {w : World} (hr : Region.ready md ops listed = [n]) (ho : ops[n]? = some o) (hr2 : Region.ready md ops (listed.setIfInBounds n true) = [])
    (h : ∀ K' : Act → World → Prop, Shut (∀ a w, Q .normal a w → K' a w) → if Region.wanted o (yielded ops a.tmps) = true then Oper.wp P o a w K' Q else K' (a.put o.dst undef) w) :
    wpAnyN P md ops Q S n (fuel + 1) listed a w := by
  refine ⟨fun h0 => absurd (hr ▸ h0) (by simp), ?_⟩
  rw [hr]
  intro j hj
  obtain rfl : j = n := by simpa using hj
  exact wpOp_step ho (fun K' hK => h K' (fun a w hW => hK a w ⟨fun h0 => absurd rfl h0, wpAnyN_done hr2 hW _⟩))
end
end Go.Proofs.YtjajoiahgfafgaaGreatDoor
end

/- arch.Decode. -/
section
set_option linter.unusedVariables false
namespace Go.Proofs.YtjajoiahgfafgaaGreatDoor
open Go.RowKit Plain

theorem ndV_length (x : Nd) : (ndV x).length = 4 := rfl
theorem ndV_oneCell (x : Nd) : ∀ u ∈ ndV x, u.oneCell' = true := by intro u hu; simp [ndV] at hu; rcases hu with rfl | rfl | rfl | rfl <;> rfl
theorem stV_length (x : Stp) : (stV x).length = 3 := rfl
theorem stV_oneCell (x : Stp) : ∀ u ∈ stV x, u.oneCell' = true := by intro u hu; simp [stV] at hu; rcases hu with rfl | rfl | rfl <;> rfl
theorem own_rowsA {α : Type} {enc : α → List Value} {n : Nat} (hm : ∀ x, (enc x).length = n) {w : World} {base : Nat} {e : TypeId} {A : Option Addr} {c k : Nat} {l : List α} (h : w.ownsRow base e n (.slice A k c) k (rowsE enc l)) (hk : k = l.length) : IsRows w n A (l.map enc) := by
  subst hk
  intro i hi
  have hi' : i < l.length := by simpa using hi
  rcases h.2 with ⟨_, h0⟩ | ⟨g, cap, cur, hv, hb, hg, _⟩
  · omega
  · injection hv with hA _ _
    subst hA
    refine ⟨_, rfl, fun j u hu => h.cells (g := g) rfl _ _ ?_⟩
    rw [List.getElem_map] at hu
    have hj : j < n := by have := (List.getElem?_eq_some_iff.1 hu).1; rwa [hm] at this
    rw [rowsE_get hm l i hi' j hj]; exact hu
theorem ne_blocks {W : World} {x y : Nat} {c c' : Array Value} {t t' : TypeId} {f f' : Nat × Nat} (h1 : W.heap[x]? = some (.cells c t f)) (h2 : W.heap[y]? = some (.cells c' t' f')) (h : t ≠ t') : x ≠ y := by
  rintro rfl
  rw [h1] at h2
  injection h2 with h2
  injection h2 with _ h3 _
  exact h h3
theorem own_unlikeA {w w' : World} {b b' : Nat} {e e' : TypeId} {size size' n n' : Nat} {v u : Value} {xs ys : List Value} (hv : w.ownsRow b e size v n xs) (hu : w.ownsRow b' e' size' u n' ys) (he : e ≠ e') (hg : w.grownBy w' u.ownBlock) : w'.ownsRow b e size v n xs := by
  refine ⟨hv.1, ?_⟩
  rcases hv.2 with h | ⟨g, cap, cur, rfl, hbg, hh, hr⟩
  · exact .inl h
  · refine .inr ⟨g, cap, cur, rfl, hbg, ?_, hr⟩
    rw [hg.block g (Array.getElem?_eq_some_iff.1 hh).1 (fun e1 => by
      rcases hu.2 with ⟨hv2, _⟩ | ⟨g2, cap2, cur2, rfl, _, hh2, _⟩
      · rw [hv2] at e1; cases e1
      · have e2 : g = g2 := by injection e1
        rw [← e2, hh] at hh2
        injection hh2 with hh2
        injection hh2 with _ h3 _
        exact he h3)]
    exact hh
theorem own_kept_block {W W' : World} {base : Nat} {e : TypeId} {size n : Nat} {v : Value} {xs : List Value} {x : Nat} {c : Array Value} {t : TypeId} {f : Nat × Nat} (h : W.ownsRow base e size v n xs) (hx : W.heap[x]? = some (.cells c t f)) (hg : W.grownBy W' (some x)) (ht : e ≠ t) : W'.ownsRow base e size v n xs := by
  refine h.kept hg ?_
  rcases h.2 with ⟨rfl, _⟩ | ⟨g, cap, cur, rfl, _, hh, _⟩
  · exact .inl rfl
  · right
    show some g ≠ some x
    intro e
    injection e with e
    exact ne_blocks hh hx ht e

/-- An archive that is being read: the reader, the archive's block, its two rows, the result's block. -/
structure Dc (w0 : World) (br bb ab : Nat) (pair : List UInt8) (serial : Int) (t : List Nd) (k : List Stp) (st : St) (vT vS : Value) (W : World) : Prop where
  rd : Rd br bb st W
  arc : W.heap[ab]? = some (.cells #[.string ⟨pair.toArray⟩, .int .i64 serial, vT, vS] 26 (0, 0))
  nodes : W.ownsRow w0.heap.size 41 4 vT t.length (rowsE ndV t)
  stamps : W.ownsRow w0.heap.size 55 3 vS k.length (rowsE stV k)
  res : W.heap[w0.heap.size]? = some (.cells #[.string ⟨#[]⟩, .int .i64 0, .slice none 0 0, .slice none 0 0] 26 (0, 0))
  old : Below w0.heap.size w0 W
  nr : ab ≠ w0.heap.size
  newA : w0.heap.size ≤ ab
  newB : w0.heap.size ≤ bb
variable {w0 W W' : World} {br bb ab : Nat} {pair : List UInt8} {serial : Int} {t : List Nd} {k : List Stp} {st st' : St} {vT vS : Value}
theorem Dc.below (h : Dc w0 br bb ab pair serial t k st vT vS W) (hb : Below W.heap.size W W') : Dc w0 br bb ab pair serial t k st vT vS W' :=
  ⟨h.rd.below hb, (hb.block _ (lt_of_heap h.arc)).trans h.arc, h.nodes.kept (row := none) ⟨hb.os, hb.tape, hb.output, hb.size, fun i hi _ => hb.block i hi⟩ (by cases vT.ownBlock <;> simp), h.stamps.kept (row := none) ⟨hb.os, hb.tape, hb.output, hb.size, fun i hi _ => hb.block i hi⟩ (by cases vS.ownBlock <;> simp),
    (hb.block _ (lt_of_heap h.res)).trans h.res, h.old.trans (hb.mono h.old.size), h.nr, h.newA, h.newB⟩
theorem Dc.read (h : Dc w0 br bb ab pair serial t k st vT vS W) (hr : Rd br bb st' W') (hg : W.grownBy W' (some bb)) : Dc w0 br bb ab pair serial t k st' vT vS W' :=
  ⟨hr, (hg.block _ (lt_of_heap h.arc) (by intro e; injection e with e; exact ne_blocks h.arc h.rd.inner (by decide) e)).trans h.arc, own_kept_block h.nodes h.rd.inner hg (by decide), own_kept_block h.stamps h.rd.inner hg (by decide),
    (hg.block _ (lt_of_heap h.res) (by intro e; injection e with e; exact ne_blocks h.res h.rd.inner (by decide) e)).trans h.res, h.old.grown hg h.old.size (fun i hi => by injection hi with hi; rw [← hi]; exact h.newB), h.nr, h.newA, h.newB⟩
theorem Dc.arc_far (h : Dc w0 br bb ab pair serial t k st vT vS W) (hg : W.grownBy W' vT.ownBlock) : W'.heap[ab]? = some (.cells #[.string ⟨pair.toArray⟩, .int .i64 serial, vT, vS] 26 (0, 0)) :=
  (hg.block _ (lt_of_heap h.arc) (fun e => by
    rcases h.nodes.2 with ⟨rfl, _⟩ | ⟨g, cap, cur, rfl, _, hh, _⟩
    · cases e
    · injection e with e
      exact ne_blocks h.arc hh (by decide) e)).trans h.arc
theorem Dc.arc_farS (h : Dc w0 br bb ab pair serial t k st vT vS W) (hg : W.grownBy W' vS.ownBlock) : W'.heap[ab]? = some (.cells #[.string ⟨pair.toArray⟩, .int .i64 serial, vT, vS] 26 (0, 0)) :=
  (hg.block _ (lt_of_heap h.arc) (fun e => by
    rcases h.stamps.2 with ⟨rfl, _⟩ | ⟨g, cap, cur, rfl, _, hh, _⟩
    · cases e
    · injection e with e
      exact ne_blocks h.arc hh (by decide) e)).trans h.arc
/-- a node is appended, and its row laid into the archive -/
theorem Dc.node (h : Dc w0 br bb ab pair serial t k st vT vS W) {vT' : Value} {x : Nd} (hown : W'.ownsRow w0.heap.size 41 4 vT' (t.length + 1) (rowsE ndV t ++ ndV x)) (hg : W.grownBy W' vT.ownBlock) :
    Dc w0 br bb ab pair serial (t ++ [x]) k st vT' vS (W'.setCell ⟨ab, 2, none⟩ vT') := by
  have hne : ∀ y c ty f, W.heap[y]? = some (.cells c ty f) → ty ≠ 41 → some y ≠ vT.ownBlock := fun y c ty f hy hty e => by
    rcases h.nodes.2 with ⟨rfl, _⟩ | ⟨g, cap, cur, rfl, _, hh, _⟩
    · cases e
    · injection e with e
      exact ne_blocks hy hh hty e
  have hA := (hg.block _ (lt_of_heap h.arc) (hne _ _ _ _ h.arc (by decide))).trans h.arc
  have hO := (hg.block _ (lt_of_heap h.rd.outer) (hne _ _ _ _ h.rd.outer (by decide))).trans h.rd.outer
  have hI := (hg.block _ (lt_of_heap h.rd.inner) (hne _ _ _ _ h.rd.inner (by decide))).trans h.rd.inner
  have hR := (hg.block _ (lt_of_heap h.res) (hne _ _ _ _ h.res (by decide))).trans h.res
  have hS := own_unlikeA h.stamps h.nodes (by decide) hg
  have gA : W'.grownBy (W'.setCell ⟨ab, 2, none⟩ vT') (some ab) := gb_set (gb_refl _ _) (.inl rfl) _
  refine ⟨⟨h.rd.ne, (heap_set_ne (ne_blocks hO hA (by decide)) _ _).trans hO, (heap_set_ne (ne_blocks hI hA (by decide)) _ _).trans hI, h.rd.short⟩, ?_, ?_, own_kept_block hS hA gA (by decide), (heap_set_ne (fun e => h.nr e.symm) _ _).trans hR,
    (h.old.grown hg h.old.size (fun i hi => (h.nodes.lt i hi).1)).setCell (p := ⟨ab, 2, none⟩) h.newA _, h.nr, h.newA, h.newB⟩
  · rw [heap_set hA]; rfl
  · have := own_kept_block hown hA gA (by decide)
    rw [List.length_append, rowsE_append, rowsE_one]
    exact this
theorem Dc.stamp (h : Dc w0 br bb ab pair serial t k st vT vS W) {vS' : Value} {x : Stp} (hown : W'.ownsRow w0.heap.size 55 3 vS' (k.length + 1) (rowsE stV k ++ stV x)) (hg : W.grownBy W' vS.ownBlock) :
    Dc w0 br bb ab pair serial t (k ++ [x]) st vT vS' (W'.setCell ⟨ab, 3, none⟩ vS') := by
  have hne : ∀ y c ty f, W.heap[y]? = some (.cells c ty f) → ty ≠ 55 → some y ≠ vS.ownBlock := fun y c ty f hy hty e => by
    rcases h.stamps.2 with ⟨rfl, _⟩ | ⟨g, cap, cur, rfl, _, hh, _⟩
    · cases e
    · injection e with e
      exact ne_blocks hy hh hty e
  have hA := (hg.block _ (lt_of_heap h.arc) (hne _ _ _ _ h.arc (by decide))).trans h.arc
  have hO := (hg.block _ (lt_of_heap h.rd.outer) (hne _ _ _ _ h.rd.outer (by decide))).trans h.rd.outer
  have hI := (hg.block _ (lt_of_heap h.rd.inner) (hne _ _ _ _ h.rd.inner (by decide))).trans h.rd.inner
  have hR := (hg.block _ (lt_of_heap h.res) (hne _ _ _ _ h.res (by decide))).trans h.res
  have hS := own_unlikeA h.nodes h.stamps (by decide) hg
  have gA : W'.grownBy (W'.setCell ⟨ab, 3, none⟩ vS') (some ab) := gb_set (gb_refl _ _) (.inl rfl) _
  refine ⟨⟨h.rd.ne, (heap_set_ne (ne_blocks hO hA (by decide)) _ _).trans hO, (heap_set_ne (ne_blocks hI hA (by decide)) _ _).trans hI, h.rd.short⟩, ?_, own_kept_block hS hA gA (by decide), ?_, (heap_set_ne (fun e => h.nr e.symm) _ _).trans hR,
    (h.old.grown hg h.old.size (fun i hi => (h.stamps.lt i hi).1)).setCell (p := ⟨ab, 3, none⟩) h.newA _, h.nr, h.newA, h.newB⟩
  · rw [heap_set hA]; rfl
  · have := own_kept_block hown hA gA (by decide)
    rw [List.length_append, rowsE_append, rowsE_one]
    exact this

namespace Plain
theorem textR_len (most : Int) (st : St) : (textR most st).length ≤ st.1.length := by
  obtain ⟨s, f⟩ := st
  by_cases hf : f = 0
  · subst hf; exact (step_text most s).2
  · unfold textR; rw [if_pos hf]; simp
theorem count_le (most least : Int) (st : St) (h : 0 ≤ most) : ((takeR (passCount most least) st).1 : Int) ≤ most := by
  unfold takeR
  split
  · simpa using h
  · split
    · simpa using h
    · split
      · simpa using h
      · rename_i h3
        unfold passCount at h3
        split at h3
        · simp at h3
        · simp only; omega
theorem one_len (s : List UInt8) : (one s).1.length ≤ 1048576 := by
  unfold one
  split
  · simp
  · by_cases h : (next s).2.2 = 0
    · exact (next_rest s h).2.2
    · rw [(next_err s h).1]; simp
theorem readNs_next (n : Nat) (st : St) : readNs (n + 1) st = ((readN st).1 :: (readNs n (readN st).2).1, (readNs n (readN st).2).2) := rfl
end Plain
theorem info_nodeA : (Tryz.prog.info? 41).map (fun i => (i.zero, i.size, i.bytes)) = some (some (.agg #[.string ByteArray.empty, .int .i64 0, .string ByteArray.empty, .int .i64 0]), 4, 48) := by kernel_rfl
theorem info_stampA : (Tryz.prog.info? 55).map (fun i => (i.zero, i.size, i.bytes)) = some (some (.agg #[.int .i64 0, .int .i64 0, .int .i64 0]), 3, 24) := by kernel_rfl
theorem results_row_tmp {P : Program} {fn : Func} {p u : Tmp} {ty : TypeId} (h : fn.results = #[.cell p ty, .tmp u]) (tmps : Array Value) (w : World) (g : Nat) (t : TypeId) (cs : Array Value) (fr : Nat × Nat) (d : TypeDesc)
    (hp : tmps.getD p undef = .pointer (some ⟨g, 0, none⟩)) (hg : w.heap[g]? = some (.cells cs t fr))
    (hu : P.underlying ty = some d) (hd : (match d with | .struct _ | .array _ _ => true | _ => false) = true) (hi : (P.info? ty).map (·.size) = some cs.size) :
    (results fn tmps).run P w = .ok (.tuple #[.agg cs, tmps.getD u undef]) w := by
  rw [results_cell_tmp h, hp]
  simp [asAddr, run_loadVar_row w g t ty cs fr d hg hu hd hi, Result.andThen]
theorem size_arc : (Tryz.prog.info? 26).map (·.size) = some 4 := by kernel_rfl
theorem set_row4 {w : World} {g : Nat} {a b c d a' b' c' d' : Value} {t : TypeId} (h : w.heap[g]? = some (.cells #[a, b, c, d] t (0, 0))) :
    ((((w.setCell ⟨g, 0, none⟩ a').setCell ⟨g, 1, none⟩ b').setCell ⟨g, 2, none⟩ c').setCell ⟨g, 3, none⟩ d').heap[g]? = some (.cells #[a', b', c', d'] t (0, 0)) := by
  rw [heap_set (heap_set (heap_set (heap_set h 0 a') 1 b') 2 c') 3 d']; rfl
theorem below_row4 {B g : Nat} {w0 w : World} {a b c d : Value} (h : Below B w0 w) (hg : B ≤ g) : Below B w0 ((((w.setCell ⟨g, 0, none⟩ a).setCell ⟨g, 1, none⟩ b).setCell ⟨g, 2, none⟩ c).setCell ⟨g, 3, none⟩ d) :=
  (((h.setCell (p := ⟨g, 0, none⟩) hg a).setCell (p := ⟨g, 1, none⟩) hg b).setCell (p := ⟨g, 2, none⟩) hg c).setCell (p := ⟨g, 3, none⟩) hg d
theorem gb_trans' {a w w' : World} {g : Nat} (h : a.grownBy w (some g)) (k : w.grownBy w' (some g)) : a.grownBy w' (some g) :=
  ⟨k.os.trans h.os, k.tape.trans h.tape, k.output.trans h.output, Nat.le_trans h.size k.size, fun i hi hne => (k.block i (Nat.lt_of_lt_of_le hi h.size) hne).trans (h.block i hi hne)⟩
theorem laid_rowN (w : World) (t : TypeId) (L : List Value) : ∀ j v, L[j]? = some v → (w.alloc (.cells L.toArray t)).cell? ((⟨w.heap.size, 0, none⟩ : Addr).add j) = some v := by
  intro j v h
  have e : (⟨w.heap.size, 0, none⟩ : Addr).add j = ⟨w.heap.size, j, none⟩ := by unfold Addr.add; split <;> simp_all
  rw [e, cell_of_row _ _ j _ _ _ (heap_alloc_new w _)]
  simpa using h
theorem RText_st (br bb : Nat) (most : Int) (st : St) (w : World) (h : Rd br bb st w) : Calls Tryz.prog 25 #[.pointer (some ⟨br, 0, none⟩), .int .i64 most] w (RdRet w br bb (takeR (passText most) st).2 (.string ⟨(textR most st).toArray⟩)) := by
  obtain ⟨s, f⟩ := st; exact RText_any br bb most s f w h
theorem RNum_st (br bb : Nat) (st : St) (w : World) (h : Rd br bb st w) : Calls Tryz.prog 26 #[.pointer (some ⟨br, 0, none⟩)] w (RdRet w br bb (takeR passNum st).2 (.int .i64 ((takeR passNum st).1 : Nat))) := by
  obtain ⟨s, f⟩ := st; exact RNum_any br bb s f w h
theorem RCount_st (br bb : Nat) (most least : Int) (st : St) (w : World) (h : Rd br bb st w) : Calls Tryz.prog 27 #[.pointer (some ⟨br, 0, none⟩), .int .i64 most, .int .i64 least] w (RdRet w br bb (takeR (passCount most least) st).2 (.int .i64 ((takeR (passCount most least) st).1 : Nat))) := by
  obtain ⟨s, f⟩ := st; exact RCount_any br bb most least s f w h
theorem REnd_st (br bb : Nat) (st : St) (w : World) (h : Rd br bb st w) : Calls Tryz.prog 28 #[.pointer (some ⟨br, 0, none⟩)] w (Ret w (.int .i64 (endR st : Nat))) := by
  obtain ⟨s, f⟩ := st; exact REnd_any br bb s f w h
theorem gb_row4 {g : Nat} {w : World} {a b c d : Value} : w.grownBy ((((w.setCell ⟨g, 0, none⟩ a).setCell ⟨g, 1, none⟩ b).setCell ⟨g, 2, none⟩ c).setCell ⟨g, 3, none⟩ d) (some g) := by
  have h1 : w.grownBy (w.setCell ⟨g, 0, none⟩ a) (some g) := gb_set (gb_refl _ _) (.inl rfl) _
  have h2 := gb_set h1 (p := ⟨g, 1, none⟩) (.inl rfl) b
  have h3 := gb_set h2 (p := ⟨g, 2, none⟩) (.inl rfl) c
  exact gb_set h3 (p := ⟨g, 3, none⟩) (.inl rfl) d
/-- What a reading of an archive tells. -/
def ArcOut (w : World) (r : Arc × Nat) (e : Ending) (w' : World) : Prop :=
  ∃ A c B d, e = .returned (.tuple #[.agg (arV r.1 A c B d).toArray, .int .i64 (r.2 : Nat)]) ∧ ArAt r.1 A c B d w' ∧ Below w.heap.size w w'
theorem zero_at (w : World) : ArAt zeroA none 0 none 0 w :=
  ⟨fun k hk => absurd hk (by simp [zeroA]), fun k hk => absurd hk (by simp [zeroA]), Nat.le_refl _, Nat.le_refl _, Nat.zero_le _, Nat.zero_le _, fun n hn => absurd hn (by simp [zeroA]), Nat.zero_le _⟩

set_option maxHeartbeats 4000000 in
set_option maxRecDepth 100000 in
theorem decode_any (s : List UInt8) (m : Int) (w : World) (hL : Laid w m) (hs : s.length ≤ 9223372036854775807) :
    Calls Tryz.prog 8 #[.string ⟨s.toArray⟩] w (ArcOut w (decodeA s)) := by
  obtain ⟨it0, hi, hz0, hz1, hz2⟩ := info_parts info_nodeA
  obtain ⟨jt0, hj, hy0, hy1, hy2⟩ := info_parts info_stampA
  have HI := Lib.hid hi
  have HJ := Lib.hid hj
  have HLA := Lib.hid (fun W (h : Below w.heap.size w W) => hL.below h)
  have HON := Lib.hid (fun W => One_any s W hs)
  have hpl := one_len s
  obtain ⟨out, hout⟩ : ∃ o, o = decodeA s := ⟨_, rfl⟩
  rw [← hout]
  unfold decodeA at hout
  generalize one s = pe at *
  obtain ⟨p, ec⟩ := pe
  simp only at hpl hout HON
  have HDE := Lib.hid hout
  clear hout
  have HPL := Lib.hid hpl
  obtain ⟨w1, hw1⟩ : ∃ w1, w.alloc (.cells #[.string ⟨#[]⟩, .int .i64 0, .slice none 0 0, .slice none 0 0] 26) = w1 := ⟨_, rfl⟩
  have HW1 := Lib.hid hw1
  have HB1 := Lib.hid (show Below w.heap.size w w1 by rw [← hw1]; exact (Below.refl w.heap.size w).alloc (Nat.le_refl _) _)
  have HS1 := Lib.hid (show w1.heap.size = w.heap.size + 1 by rw [← hw1]; simp)
  have HR1 := Lib.hid (show w1.heap[w.heap.size]? = some (.cells #[.string ⟨#[]⟩, .int .i64 0, .slice none 0 0, .slice none 0 0] 26 (0, 0)) by rw [← hw1]; exact heap_alloc_new _ _)
  clear hi hj hL hpl hw1
  go_enter Tryz.func8, Tryz.ntmps8
  go_upto_region 1 with (fail)
  rw [HW1.out]
  go_wp2_with (fail)
  refine (HON.out _).mono ?_
  rintro e w2 ⟨rfl, hb2⟩
  have HR2 := Lib.hid ((hb2.block _ (by have := HS1.out; omega)).trans HR1.out)
  have HB2 := Lib.hid (HB1.out.trans (hb2.mono HB1.out.size))
  clear hb2
  go_wp2_with (fail)
  refine (New_any p _ (by have := HPL.out; omega)).mono ?_
  rintro e w3 ⟨rfl, hrd3, hb3⟩
  have HRD3 := Lib.hid hrd3
  have HR3 := Lib.hid ((hb3.block _ (lt_of_heap HR2.out)).trans HR2.out)
  have HB3 := Lib.hid (HB2.out.trans (hb3.mono HB2.out.size))
  have HLT3 := Lib.hid (show w.heap.size < w2.heap.size from lt_of_heap HR2.out)
  clear hrd3 hb3
  by_cases hec : ec = 0
  · have hec2 : ((ec : Int) != 0) = false := by rw [bne_eq_false_iff_eq]; omega
    subst hec
    have htx := RText_any (w2.heap.size + 1) w2.heap.size 8 p 0 w3 HRD3.out
    by_cases hmg : textR 8 (p, 0) = magicB
    · rw [hmg, show magicB = [104, 97, 119, 115, 101, 114, 32, 49] from rfl] at htx
      have HTX := Lib.hid htx
      have HDE2 := Lib.hid (show out = doneA (readH p) (readNs (readH p).count (readH p).rest).1 (readNs (readH p).count (readH p).rest).2 by rw [HDE.out, if_neg (by simp [hmg])])
      clear htx hmg
      go_wp2_with (fail)
      refine HTX.out.mono ?_
      rintro e w4 ⟨rfl, hrd4, hg4⟩
      have HRD4 := Lib.hid hrd4
      have HRH := Lib.hid (show readH p = ⟨textR 8 (p, 0), textR 64 (takeR (passText 8) (p, 0)).2, (takeR passNum (takeR (passText 64) (takeR (passText 8) (p, 0)).2).2).1, (takeR (passCount 1000 7) (takeR passNum (takeR (passText 64) (takeR (passText 8) (p, 0)).2).2).2).1, (takeR (passCount 1000 7) (takeR passNum (takeR (passText 64) (takeR (passText 8) (p, 0)).2).2).2).2⟩ from rfl)
      generalize (takeR (passText 8) (p, 0)).2 = s1 at *
      go_wp2_with (fail)
      refine (RText_st (w2.heap.size + 1) w2.heap.size 64 s1 w4 HRD4.out).mono ?_
      rintro e w5 ⟨rfl, hrd5, hg5⟩
      have HRD5 := Lib.hid hrd5
      have HPR := Lib.hid (textR_len 64 s1)
      have HSH := HRD4.out.short
      have HPL5 := Lib.hid (show (textR 64 s1).length ≤ 140737488355328 from Nat.le_trans HPR.out HSH)
      generalize textR 64 s1 = pair at *
      generalize (takeR (passText 64) s1).2 = s2 at *
      clear hrd4 hrd5 HPR HSH
      go_wp2_with (fail)
      refine (RNum_st (w2.heap.size + 1) w2.heap.size s2 w5 HRD5.out).mono ?_
      rintro e w6 ⟨rfl, hrd6, hg6⟩
      have HRD6 := Lib.hid hrd6
      generalize (takeR passNum s2).1 = sr at *
      generalize (takeR passNum s2).2 = s3 at *
      have hg46 := (show w3.grownBy w6 (some w2.heap.size) from gb_trans' (gb_trans' hg4 hg5) hg6)
      have HR6 := Lib.hid ((hg46.block _ (lt_of_heap HR3.out) (by intro e; injection e with e; exact ne_blocks HR3.out HRD3.out.inner (by decide) e)).trans HR3.out)
      have HB6 := Lib.hid (HB3.out.grown hg46 HB3.out.size (fun i hi => by injection hi with hi; rw [← hi]; exact Nat.le_of_lt HLT3.out))
      obtain ⟨w7, hw7⟩ : ∃ w7, w6.alloc (.cells #[.string ⟨pair.toArray⟩, .int .i64 (sr : Nat), .slice none 0 0, .slice none 0 0] 26) = w7 := ⟨_, rfl⟩
      have HW7 := Lib.hid hw7
      have hb7 := (show Below w6.heap.size w6 w7 by rw [← hw7]; exact (Below.refl _ _).alloc (Nat.le_refl _) _)
      have HD7 : Hid (Dc w (w2.heap.size + 1) w2.heap.size w6.heap.size pair (sr : Nat) [] [] s3 (.slice none 0 0) (.slice none 0 0) w7) := Lib.hid
        ⟨HRD6.out.below hb7, by rw [← hw7]; exact heap_alloc_new _ _, World.ownsRow_nil _ _ _ _, World.ownsRow_nil _ _ _ _, (hb7.block _ (lt_of_heap HR6.out)).trans HR6.out, HB6.out.trans (hb7.mono HB6.out.size),
          by have := lt_of_heap HR6.out; omega, HB6.out.size, Nat.le_of_lt HLT3.out⟩
      clear hrd6 hg4 hg5 hg6 hg46 hw7 hb7
      go_upto_region 6 with (fail)
      rw [HW7.out]
      go_wp2_with (fail)
      refine (RCount_st (w2.heap.size + 1) w2.heap.size 1000 7 s3 w7 HD7.out.rd).mono ?_
      rintro e w8 ⟨rfl, hrd8, hg8⟩
      have HCN := Lib.hid (count_le 1000 7 s3 (by decide))
      have HD8 := Lib.hid (HD7.out.read hrd8 hg8)
      generalize (takeR (passCount 1000 7) s3).1 = n at *
      generalize (takeR (passCount 1000 7) s3).2 = s4 at *
      clear hrd8 hg8
      have hn : n ≤ 1000 := by have := HCN.out; omega
      generalize w6.heap.size = ab at *
      generalize w2.heap.size = bb at *
      obtain ⟨res, hres⟩ : ∃ r, readNs n s4 = r := ⟨_, rfl⟩
      have HRES := Lib.hid (show (([] : List (Nd × Stp)) ++ (readNs (n - 0) s4).1, (readNs (n - 0) s4).2) = res from by rw [← hres]; rfl)
      have HOUT2 := Lib.hid (show out = doneA (readH p) res.1 res.2 by rw [HDE2.out, HRH.out]; simp only; rw [hres])
      clear hres
      go_wp2_with (fail)
      go_loopw [31] (fun t31 W => ∃ (i : Nat) (l : List (Nd × Stp)) (st : St) (vT vS : Value), i ≤ n ∧ l.length = i ∧ t31 = .int .i64 i ∧ Hid (Dc w (bb + 1) bb ab pair (sr : Nat) (l.map Prod.fst) (l.map Prod.snd) st vT vS W) ∧ Hid ((l ++ (readNs (n - i) st).1, (readNs (n - i) st).2) = res) ∧ Hid (∀ x ∈ l, x.1.path.length ≤ 140737488355328 ∧ x.1.data.length ≤ 140737488355328)) (fun t31 _ => n - (intOf t31).toNat)
      case atStart => exact ⟨0, [], s4, _, _, by omega, rfl, rfl, HD8, HRES, Lib.hid (fun x hx => by cases hx)⟩
      case round =>
        clear HRES HD8
        obtain ⟨i, l, st, vT, vS, hi, hl, rfl, HD, HE, HX⟩ := hrel
        have i0 : (0 : Int) ≤ i := by omega
        have e1 : IntKind.i64.wrap ((i : Int) + 1) = (i : Int) + 1 := IntWalk.i64_in _ (by omega)
        by_cases hlt : i < n
        · have i1 : (i : Int) < n := by omega
          obtain ⟨q, hq⟩ : ∃ q, n - i = q + 1 := ⟨n - i - 1, by omega⟩
          have hlm : (l.map Prod.fst).length = i := by rw [List.length_map]; exact hl
          have hlk : (l.map Prod.snd).length = i := by rw [List.length_map]; exact hl
          have HRN := Lib.hid (show readN st = ((⟨textR 400 st, ((takeR passNum (takeR (passText 400) st).2).1 : Nat), textR 64 (takeR passNum (takeR passNum (takeR (passText 400) st).2).2).2, ((takeR passNum (takeR passNum (takeR (passText 400) st).2).2).1 : Nat)⟩,
            ⟨((takeR passNum (takeR (passText 64) (takeR passNum (takeR passNum (takeR (passText 400) st).2).2).2).2).1 : Nat), ((takeR passNum (takeR passNum (takeR (passText 64) (takeR passNum (takeR passNum (takeR (passText 400) st).2).2).2).2).2).1 : Nat), ((takeR passNum (takeR passNum (takeR passNum (takeR (passText 64) (takeR passNum (takeR passNum (takeR (passText 400) st).2).2).2).2).2).2).1 : Nat)⟩),
            (takeR passNum (takeR passNum (takeR passNum (takeR (passText 64) (takeR passNum (takeR passNum (takeR (passText 400) st).2).2).2).2).2).2).2) from rfl)
          have HE2 := HE
          rw [hq, readNs_next] at HE2
          go_wp2_with (fail)
          refine (RText_st (bb + 1) bb 400 st wr HD.out.rd).mono ?_
          rintro e wa ⟨rfl, hra, hga⟩
          have HDA := Lib.hid (HD.out.read hra hga)
          have HPT := Lib.hid (show (textR 400 st).length ≤ 140737488355328 from Nat.le_trans (textR_len 400 st) HD.out.rd.short)
          clear hra hga
          generalize textR 400 st = pt at *
          generalize (takeR (passText 400) st).2 = s1 at *
          go_wp2_with (fail)
          refine (RNum_st (bb + 1) bb s1 wa HDA.out.rd).mono ?_
          rintro e wb ⟨rfl, hra, hga⟩
          have HDB := Lib.hid (HDA.out.read hra hga)
          clear hra hga
          generalize (takeR passNum s1).1 = kd at *
          generalize (takeR passNum s1).2 = s2 at *
          go_wp2_with (fail)
          refine (RNum_st (bb + 1) bb s2 wb HDB.out.rd).mono ?_
          rintro e wc ⟨rfl, hra, hga⟩
          have HDC := Lib.hid (HDB.out.read hra hga)
          clear hra hga
          generalize (takeR passNum s2).1 = md at *
          generalize (takeR passNum s2).2 = s3 at *
          go_wp2_with (fail)
          refine (RText_st (bb + 1) bb 64 s3 wc HDC.out.rd).mono ?_
          rintro e wd ⟨rfl, hra, hga⟩
          have HDD := Lib.hid (HDC.out.read hra hga)
          have HDT := Lib.hid (show (textR 64 s3).length ≤ 140737488355328 from Nat.le_trans (textR_len 64 s3) HDC.out.rd.short)
          clear hra hga HDA HDB HDC
          generalize textR 64 s3 = dt at *
          generalize (takeR (passText 64) s3).2 = s4 at *
          obtain ⟨nd, hnd⟩ : ∃ nd : Nd, nd = ⟨pt, (kd : Nat), dt, (md : Nat)⟩ := ⟨_, rfl⟩
          obtain ⟨we, hwe⟩ : ∃ we, wd.alloc (.cells #[.string ⟨pt.toArray⟩, .int .i64 (kd : Nat), .string ⟨dt.toArray⟩, .int .i64 (md : Nat)] 41) = we := ⟨_, rfl⟩
          have HWE := Lib.hid hwe
          have HDE3 := Lib.hid (HDD.out.below (show Below wd.heap.size wd we by rw [← hwe]; exact (Below.refl _ _).alloc (Nat.le_refl _) _))
          have hNR := (show we.heap[wd.heap.size]? = some (.cells #[.string ⟨pt.toArray⟩, .int .i64 (kd : Nat), .string ⟨dt.toArray⟩, .int .i64 (md : Nat)] 41 (0, 0)) by rw [← hwe]; exact heap_alloc_new _ _)
          clear hwe HDD
          go_upto_region 9 with (fail)
          rw [HWE.out]
          have n0 := cell_of_row we _ 0 _ _ _ hNR
          have n1 := cell_of_row we _ 1 _ _ _ hNR
          have n2 := cell_of_row we _ 2 _ _ _ hNR
          have n3 := cell_of_row we _ 3 _ _ _ hNR
          have a2 := cell_of_row we _ 2 _ _ _ HDE3.out.arc
          clear hNR
          go_wp2_with (at_builtin; refine wpList_append_own _ rfl _ _ 23 rfl w.heap.size 41 it0 _ 4 48 Tryz.underlying23 HI.out hz0 hz1 hz2 rfl (by decide) _ _ _ rfl (HDE3.out.nodes.alloc _) ⟨we.heap.size, 0, none⟩ 1 1 (ndV ⟨pt, (kd : Nat), dt, (md : Nat)⟩) rfl rfl (laid_rowN we _ _) (ndV_oneCell _) (by rw [hlm]; unfold maxLen; omega) (by rw [hlm]; omega) (by have := HDE3.out.old.size; simp; omega) ?_)
          intro v5 wf hown hgrow _
          obtain ⟨g5, c5, rfl, -, -⟩ := hown.form (by omega)
          have HDF := HDE3.out.below ((Below.refl we.heap.size we).alloc (Nat.le_refl _) (.cells (ndV ⟨pt, (kd : Nat), dt, (md : Nat)⟩).toArray 41))
          have hA := HDF.arc_far hgrow
          have HDG := Lib.hid (HDF.node (x := ⟨pt, (kd : Nat), dt, (md : Nat)⟩) (by rw [hlm]; exact hown) hgrow)
          have q2 := cell_of_row wf _ 2 _ _ _ hA
          have f2 := frozen_of_row wf ab 2 _ _ hA
          clear hA HDF hown hgrow a2 n0 n1 n2 n3
          go_wp2_with (fail)
          clear q2 f2
          generalize wf.setCell ⟨ab, 2, none⟩ (Value.slice (some ⟨g5, 0, none⟩) (i + 1) c5) = wg at *
          have hS := cell_of_row wg _ 3 _ _ _ HDG.out.arc
          go_upto_region 10 with (fail)
          refine wp_region_heldN (S := fun W => W.cell? ⟨ab, 3, none⟩ = some vS) 12 (by kernel_rfl) (by show wg.cell? _ = _; exact hS) (fun hH => ?_)
          change wpAnyN _ _ _ _ _ _ (12 + 1) #[false, false, false, false, false, false, false, false, false, false, false, false, false] _ _
          refine wpAnyN_take (i := 0) (v := .pointer (some ⟨ab, 3, none⟩)) rfl (by kernel_rfl) (by kernel_rfl) (by kernel_rfl) (by kernel_rfl) (fun _ _ _ h => h) (Or.inl ⟨by rfl, ?_⟩) (by assumption) ?_
          · intro W hW
            go_simp
          try simp only [List.getElem_toArray, List.getElem_cons_zero, List.getElem_cons_succ, Act.put, List.setIfInBounds_toArray, List.set_cons_zero, List.set_cons_succ]
          refine wpAnyN_take (i := 1) (v := vS) rfl (by kernel_rfl) (by kernel_rfl) (by kernel_rfl) (by kernel_rfl) (fun _ _ _ h => h) (Or.inl ⟨by rfl, ?_⟩) (by assumption) ?_
          · intro W hW
            have hW' : W.cell? ⟨ab, 3, none⟩ = some vS := hW
            go_simp
          try simp only [List.getElem_toArray, List.getElem_cons_zero, List.getElem_cons_succ, Act.put, List.setIfInBounds_toArray, List.set_cons_zero, List.set_cons_succ]
          refine wpAnyN_take (i := 2) (v := .pointer (some ⟨bb + 1, 0, none⟩)) rfl (by kernel_rfl) (by kernel_rfl) (by kernel_rfl) (by kernel_rfl) (fun _ _ _ h => h) (Or.inl ⟨by rfl, ?_⟩) (by assumption) ?_
          · intro W hW
            go_simp
          try simp only [List.getElem_toArray, List.getElem_cons_zero, List.getElem_cons_succ, Act.put, List.setIfInBounds_toArray, List.set_cons_zero, List.set_cons_succ]
          refine wpAnyN_take (i := 4) (v := .pointer (some ⟨bb + 1, 0, none⟩)) rfl (by kernel_rfl) (by kernel_rfl) (by kernel_rfl) (by kernel_rfl) (fun _ _ _ h => h) (Or.inl ⟨by rfl, ?_⟩) (by assumption) ?_
          · intro W hW
            go_simp
          try simp only [List.getElem_toArray, List.getElem_cons_zero, List.getElem_cons_succ, Act.put, List.setIfInBounds_toArray, List.set_cons_zero, List.set_cons_succ]
          refine wpAnyN_take (i := 6) (v := .pointer (some ⟨bb + 1, 0, none⟩)) rfl (by kernel_rfl) (by kernel_rfl) (by kernel_rfl) (by kernel_rfl) (fun _ _ _ h => h) (Or.inl ⟨by rfl, ?_⟩) (by assumption) ?_
          · intro W hW
            go_simp
          try simp only [List.getElem_toArray, List.getElem_cons_zero, List.getElem_cons_succ, Act.put, List.setIfInBounds_toArray, List.set_cons_zero, List.set_cons_succ]
          have HDH := Lib.hid (HDG.out.below ((Below.refl wg.heap.size wg).drew))
          generalize wg.drew = wh at *
          refine wpAnyN_one (i := 3) (by kernel_rfl) rfl (fun K hK => ?_)
          go_simp
          refine (RNum_st (bb + 1) bb s4 wh HDH.out.rd).mono ?_
          rintro e wi ⟨rfl, hra, hga⟩
          have HDI := Lib.hid (HDH.out.read hra hga)
          clear hra hga
          generalize (takeR passNum s4).1 = io at *
          generalize (takeR passNum s4).2 = s5 at *
          refine hK.out _ _ (cell_of_row wi _ 3 _ _ _ HDI.out.arc) (fun hH1 => ?_)
          clear hK K
          refine wpAnyN_one (i := 5) (by kernel_rfl) rfl (fun K hK => ?_)
          go_simp
          refine (RNum_st (bb + 1) bb s5 wi HDI.out.rd).mono ?_
          rintro e wj ⟨rfl, hra, hga⟩
          have HDJ := Lib.hid (HDI.out.read hra hga)
          clear hra hga
          generalize (takeR passNum s5).1 = sz at *
          generalize (takeR passNum s5).2 = s6 at *
          refine hK.out _ _ (cell_of_row wj _ 3 _ _ _ HDJ.out.arc) (fun hH2 => ?_)
          clear hK K
          refine wpAnyN_one (i := 7) (by kernel_rfl) rfl (fun K hK => ?_)
          go_simp
          refine (RNum_st (bb + 1) bb s6 wj HDJ.out.rd).mono ?_
          rintro e wk ⟨rfl, hra, hga⟩
          have HDK := Lib.hid (HDJ.out.read hra hga)
          clear hra hga
          generalize (takeR passNum s6).1 = tm at *
          generalize (takeR passNum s6).2 = s7 at *
          refine hK.out _ _ (cell_of_row wk _ 3 _ _ _ HDK.out.arc) (fun hH3 => ?_)
          clear hK K
          refine wpAnyN_take (i := 8) (v := .agg #[.int .i64 (io : Nat), .int .i64 (sz : Nat), .int .i64 (tm : Nat)]) rfl (by kernel_rfl) (by kernel_rfl) (by kernel_rfl) (by kernel_rfl) (fun _ _ _ h => h) (Or.inl ⟨by rfl, ?_⟩) (by assumption) ?_
          · intro W hW
            go_simp
          try simp only [List.getElem_toArray, List.getElem_cons_zero, List.getElem_cons_succ, Act.put, List.setIfInBounds_toArray, List.set_cons_zero, List.set_cons_succ]
          refine wpAnyN_one (i := 9) (by kernel_rfl) rfl (fun K hK => ?_)
          go_simp
          have HDL := Lib.hid (HDK.out.below ((Below.refl wk.heap.size wk).alloc (Nat.le_refl _) (.cells (stV ⟨(io : Nat), (sz : Nat), (tm : Nat)⟩).toArray 55)))
          refine hK.out _ _ (cell_of_row _ _ 3 _ _ _ HDL.out.arc) (fun hH4 => ?_)
          clear hK K
          refine wpAnyN_one (i := 10) (by kernel_rfl) rfl (fun K hK => ?_)
          simp only [List.getElem_toArray, List.getElem_cons_succ, List.getElem_cons_zero]
          rw [if_pos (by rfl)]
          refine wp_append_lies _ _ _ 24 rfl w.heap.size 55 jt0 _ 3 24 Tryz.underlying24 HJ.out hy0 hy1 hy2 rfl (by decide) _ _ _ rfl HDL.out.stamps ⟨wk.heap.size, 0, none⟩ 1 1 (stV ⟨(io : Nat), (sz : Nat), (tm : Nat)⟩) rfl rfl (laid_rowN wk _ _) (stV_oneCell _) (by decide) (by rw [hlk]; unfold maxLen; omega) (by rw [hlk]; omega) (by have := HDL.out.old.size; exact this) _ rfl ?_
          intro g6 c6 wl hown hgrow hlies hltl
          have hA := HDL.out.arc_farS hgrow
          have HDM := Lib.hid (HDL.out.stamp (x := ⟨(io : Nat), (sz : Nat), (tm : Nat)⟩) hown hgrow)
          have f3 := frozen_of_row wl ab 3 _ _ hA
          have q3 := cell_of_row wl _ 3 _ _ _ hA
          refine hK.out _ _ q3 (fun hH5 => ?_)
          clear hK K hlies hltl hown hgrow hA
          refine wpAnyN_take (i := 11) (v := .pointer (some ⟨ab, 3, none⟩)) rfl (by kernel_rfl) (by kernel_rfl) (by kernel_rfl) (by kernel_rfl) (fun _ _ _ h => h) (Or.inl ⟨by rfl, ?_⟩) (by assumption) ?_
          · intro W hW
            go_simp
          try simp only [List.getElem_toArray, List.getElem_cons_zero, List.getElem_cons_succ, Act.put, List.setIfInBounds_toArray, List.set_cons_zero, List.set_cons_succ]
          refine wpAnyN_last (by kernel_rfl) rfl (by kernel_rfl) (fun K hK => ?_)
          go_simp
          refine hK.out _ _ ?_
          clear hK K
          rw [HRN.out] at HE2
          have HE3 : Hid (((l ++ [((⟨pt, (kd : Nat), dt, (md : Nat)⟩ : Nd), (⟨(io : Nat), (sz : Nat), (tm : Nat)⟩ : Stp))]) ++ (readNs (n - (i + 1)) s7).1, (readNs (n - (i + 1)) s7).2) = res) := Lib.hid (by
            rw [show n - (i + 1) = q by omega, List.append_assoc, List.singleton_append]; exact HE2.out)
          have HX2 : Hid (∀ x ∈ l ++ [((⟨pt, (kd : Nat), dt, (md : Nat)⟩ : Nd), (⟨(io : Nat), (sz : Nat), (tm : Nat)⟩ : Stp))], x.1.path.length ≤ 140737488355328 ∧ x.1.data.length ≤ 140737488355328) := Lib.hid (fun x hx => by
            rcases List.mem_append.1 hx with h | h
            · exact HX.out x h
            · rw [List.mem_singleton] at h; subst h; exact ⟨HPT.out, HDT.out⟩)
          have HDN : Hid (Dc w (bb + 1) bb ab pair (sr : Nat) ((l ++ [((⟨pt, (kd : Nat), dt, (md : Nat)⟩ : Nd), (⟨(io : Nat), (sz : Nat), (tm : Nat)⟩ : Stp))]).map Prod.fst) ((l ++ [((⟨pt, (kd : Nat), dt, (md : Nat)⟩ : Nd), (⟨(io : Nat), (sz : Nat), (tm : Nat)⟩ : Stp))]).map Prod.snd) s7 (.slice (some ⟨g5, 0, none⟩) (i + 1) c5) (.slice (some ⟨g6, 0, none⟩) (i + 1) c6) (wl.setCell ⟨ab, 3, none⟩ (.slice (some ⟨g6, 0, none⟩) (i + 1) c6))) := Lib.hid (by rw [List.map_append, List.map_append]; have h := HDM.out; rw [hlk] at h; exact h)
          have hlen : (l ++ [((⟨pt, (kd : Nat), dt, (md : Nat)⟩ : Nd), (⟨(io : Nat), (sz : Nat), (tm : Nat)⟩ : Stp))]).length = i + 1 := by simp [hl]
          clear HE HE2 HRN HX HD HDM hH hH1 hH2 hH3 hH4 hH5 q3 f3
          go_wp2_with (fail)
          go_roundw
          case rel => exact ⟨i + 1, _, s7, _, _, by omega, hlen, by go_num, HDN, HE3, HX2⟩
          case measure => simp [intOf]; omega
        · obtain rfl : i = n := by omega
          have i1 : decide ((i : Int) < (i : Int)) = false := by rw [decide_eq_false_iff_not]; omega
          obtain ⟨r1, rst⟩ := res
          have hrr : l = r1 ∧ st = rst := by
            have := HE.out
            rw [Nat.sub_self, show readNs 0 st = ([], st) from rfl, List.append_nil] at this
            exact ⟨(Prod.mk.inj this).1, (Prod.mk.inj this).2⟩
          obtain ⟨rfl, rfl⟩ := hrr
          have HOUT3 : Hid (out = doneA (readH p) l st) := HOUT2
          clear HE HOUT2
          have HARC := Lib.hid (show arcOf (readH p) l = ⟨pair, (sr : Nat), l.map Prod.fst, l.map Prod.snd⟩ by rw [HRH.out]; rfl)
          have HLM := Lib.hid (show (l.map Prod.fst).length = i by rw [List.length_map]; exact hl)
          have HLK := Lib.hid (show (l.map Prod.snd).length = i by rw [List.length_map]; exact hl)
          have HTX := Lib.hid (show ∀ n ∈ l.map Prod.fst, n.path.length ≤ 9223372036854775807 ∧ n.data.length ≤ 9223372036854775807 from fun x hx => by
            obtain ⟨y, hy, rfl⟩ := List.mem_map.1 hx
            have := HX.out y hy
            exact ⟨by omega, by omega⟩)
          clear HX
          unfold doneA at HOUT3
          rw [HARC.out] at HOUT3
          generalize l.map Prod.fst = T at *
          generalize l.map Prod.snd = K at *
          obtain ⟨A5, c5, rfl, hc5, -, -⟩ := IsSlice.of_own HD.out.nodes
          obtain ⟨B5, d5, rfl, hd5, -, -⟩ := IsSlice.of_own HD.out.stamps
          have HAT := Lib.hid (show ∀ W, W.ownsRow w.heap.size 41 4 (.slice A5 T.length c5) T.length (rowsE ndV T) → W.ownsRow w.heap.size 55 3 (.slice B5 K.length d5) K.length (rowsE stV K) → ArAt ⟨pair, (sr : Nat), T, K⟩ A5 c5 B5 d5 W from fun W h1 h2 =>
            ⟨own_rowsA ndV_length h1 rfl, own_rowsA stV_length h2 rfl, hc5, hd5, by show T.length ≤ _; have := HLM.out; omega, by show K.length ≤ _; have := HLK.out; omega,
              HTX.out, by show pair.length ≤ _; have := HPL5.out; omega⟩)
          have HCK := Lib.hid (fun W (h : Below wr.heap.size wr W) => acheck_any ⟨pair, (sr : Nat), T, K⟩ A5 c5 B5 d5 m W (HLA.out W (HD.out.old.trans (h.mono HD.out.old.size))) (HAT.out W (HD.out.below h).nodes (HD.out.below h).stamps))
          go_wp2_with (fail)
          refine (REnd_st (bb + 1) bb st wr HD.out.rd).mono ?_
          rintro e wx ⟨rfl, hwx⟩
          have HDX := Lib.hid (HD.out.below hwx)
          have HWX := Lib.hid hwx
          clear hwx
          by_cases hen : endR st = 0
          · have hen2 : ((endR st : Int) != 0) = false := by rw [bne_eq_false_iff_eq]; omega
            cases hck : checkA ⟨pair, (sr : Nat), T, K⟩ with
            | true =>
              have HOUT := Lib.hid (show out = (⟨pair, (sr : Nat), T, K⟩, 0) by rw [HOUT3.out, hck, if_neg (by simp [hen])])
              rw [hck] at HCK
              have HC2 : Hid (∀ W, Below wr.heap.size wr W → Calls Tryz.prog 13 #[.agg #[.string ⟨pair.toArray⟩, .int .i64 (sr : Nat), .slice A5 T.length c5, .slice B5 K.length d5]] W (Ret W (.int .i64 0))) := HCK
              clear hck HCK hen
              generalize endR st = en at *
              have a0 := cell_of_row wx _ 0 _ _ _ HDX.out.arc
              have a1 := cell_of_row wx _ 1 _ _ _ HDX.out.arc
              have a2 := cell_of_row wx _ 2 _ _ _ HDX.out.arc
              have a3 := cell_of_row wx _ 3 _ _ _ HDX.out.arc
              go_wp2_with (fail)
              refine (HC2.out _ HWX.out).mono ?_
              rintro e wy ⟨rfl, hwy⟩
              have HDY := Lib.hid (HDX.out.below hwy)
              have HWY := Lib.hid (HWX.out.trans (hwy.mono HWX.out.size))
              clear hwy a0 a1 a2 a3
              have a0 := cell_of_row wy _ 0 _ _ _ HDY.out.arc
              have a1 := cell_of_row wy _ 1 _ _ _ HDY.out.arc
              have a2 := cell_of_row wy _ 2 _ _ _ HDY.out.arc
              have a3 := cell_of_row wy _ 3 _ _ _ HDY.out.arc
              have q0 := cell_of_row wy _ 0 _ _ _ HDY.out.res
              have q1 := cell_of_row wy _ 1 _ _ _ HDY.out.res
              have q2 := cell_of_row wy _ 2 _ _ _ HDY.out.res
              have q3 := cell_of_row wy _ 3 _ _ _ HDY.out.res
              have f0 := frozen_of_row wy w.heap.size 0 _ _ HDY.out.res
              have f1 := frozen_of_row wy w.heap.size 1 _ _ HDY.out.res
              have f2 := frozen_of_row wy w.heap.size 2 _ _ HDY.out.res
              have f3 := frozen_of_row wy w.heap.size 3 _ _ HDY.out.res
              go_wp2_with (fail)
              refine bodyPost_ret (results_row_tmp Tryz.results8 _ _ w.heap.size 26 _ (0, 0) _ rfl (set_row4 HDY.out.res) Tryz.underlying26 rfl size_arc) rfl ?_
              rw [HOUT.out]
              refine ⟨A5, c5, B5, d5, rfl, ?_, below_row4 HDY.out.old (Nat.le_refl _)⟩
              exact HAT.out _ (own_kept_block HDY.out.nodes HDY.out.res gb_row4 (by decide)) (own_kept_block HDY.out.stamps HDY.out.res gb_row4 (by decide))
            | false =>
              have HOUT := Lib.hid (show out = (zeroA, 90) by rw [HOUT3.out, hck, if_pos (.inr rfl)])
              rw [hck] at HCK
              have HC2 : Hid (∀ W, Below wr.heap.size wr W → Calls Tryz.prog 13 #[.agg #[.string ⟨pair.toArray⟩, .int .i64 (sr : Nat), .slice A5 T.length c5, .slice B5 K.length d5]] W (Ret W (.int .i64 90))) := HCK
              clear hck HCK hen
              generalize endR st = en at *
              have a0 := cell_of_row wx _ 0 _ _ _ HDX.out.arc
              have a1 := cell_of_row wx _ 1 _ _ _ HDX.out.arc
              have a2 := cell_of_row wx _ 2 _ _ _ HDX.out.arc
              have a3 := cell_of_row wx _ 3 _ _ _ HDX.out.arc
              go_wp2_with (fail)
              refine (HC2.out _ HWX.out).mono ?_
              rintro e wy ⟨rfl, hwy⟩
              have HDY := Lib.hid (HDX.out.below hwy)
              clear hwy a0 a1 a2 a3
              have q0 := cell_of_row wy _ 0 _ _ _ HDY.out.res
              have q1 := cell_of_row wy _ 1 _ _ _ HDY.out.res
              have q2 := cell_of_row wy _ 2 _ _ _ HDY.out.res
              have q3 := cell_of_row wy _ 3 _ _ _ HDY.out.res
              have f0 := frozen_of_row wy w.heap.size 0 _ _ HDY.out.res
              have f1 := frozen_of_row wy w.heap.size 1 _ _ HDY.out.res
              have f2 := frozen_of_row wy w.heap.size 2 _ _ HDY.out.res
              have f3 := frozen_of_row wy w.heap.size 3 _ _ HDY.out.res
              go_wp2_with (fail)
              refine bodyPost_ret (results_row_tmp Tryz.results8 _ _ w.heap.size 26 _ (0, 0) _ rfl (set_row4 HDY.out.res) Tryz.underlying26 rfl size_arc) rfl ?_
              rw [HOUT.out]
              exact ⟨none, 0, none, 0, rfl, zero_at _, below_row4 HDY.out.old (Nat.le_refl _)⟩
          · have hen2 : ((endR st : Int) != 0) = true := by rw [bne_iff_ne]; omega
            have HOUT := Lib.hid (show out = (zeroA, 90) by rw [HOUT3.out, if_pos (.inl hen)])
            have hen3 : ¬ (endR st : Int) = 0 := by omega
            clear hen
            generalize endR st = en at *
            have q0 := cell_of_row wx _ 0 _ _ _ HDX.out.res
            have q1 := cell_of_row wx _ 1 _ _ _ HDX.out.res
            have q2 := cell_of_row wx _ 2 _ _ _ HDX.out.res
            have q3 := cell_of_row wx _ 3 _ _ _ HDX.out.res
            have f0 := frozen_of_row wx w.heap.size 0 _ _ HDX.out.res
            have f1 := frozen_of_row wx w.heap.size 1 _ _ HDX.out.res
            have f2 := frozen_of_row wx w.heap.size 2 _ _ HDX.out.res
            have f3 := frozen_of_row wx w.heap.size 3 _ _ HDX.out.res
            go_wp2_with (fail)
            refine bodyPost_ret (results_row_tmp Tryz.results8 _ _ w.heap.size 26 _ (0, 0) _ rfl (set_row4 HDX.out.res) Tryz.underlying26 rfl size_arc) rfl ?_
            rw [HOUT.out]
            exact ⟨none, 0, none, 0, rfl, zero_at _, below_row4 HDX.out.old (Nat.le_refl _)⟩
    · have HOUT := Lib.hid (show out = (zeroA, 90) by rw [HDE.out, if_pos (.inr hmg)])
      have hne : (textR 8 (p, 0) == [104, 97, 119, 115, 101, 114, 32, 49]) = false := by rw [beq_eq_false_iff_ne]; exact hmg
      have HTX := Lib.hid htx
      clear htx hmg
      generalize textR 8 (p, 0) = tx at *
      go_wp2_with (fail)
      refine HTX.out.mono ?_
      rintro e w4 ⟨rfl, hrd4, hg4⟩
      have HR4 := Lib.hid ((hg4.block _ (lt_of_heap HR3.out) (by intro e; injection e with e; exact ne_blocks HR3.out HRD3.out.inner (by decide) e)).trans HR3.out)
      have HB4 := Lib.hid (HB3.out.grown hg4 HB3.out.size (fun i hi => by injection hi with hi; rw [← hi]; exact Nat.le_of_lt HLT3.out))
      clear hrd4 hg4
      have q0 := cell_of_row w4 _ 0 _ _ _ HR4.out
      have q1 := cell_of_row w4 _ 1 _ _ _ HR4.out
      have q2 := cell_of_row w4 _ 2 _ _ _ HR4.out
      have q3 := cell_of_row w4 _ 3 _ _ _ HR4.out
      have f0 := frozen_of_row w4 w.heap.size 0 _ _ HR4.out
      have f1 := frozen_of_row w4 w.heap.size 1 _ _ HR4.out
      have f2 := frozen_of_row w4 w.heap.size 2 _ _ HR4.out
      have f3 := frozen_of_row w4 w.heap.size 3 _ _ HR4.out
      go_wp2_with (fail)
      refine bodyPost_ret (results_row_tmp Tryz.results8 _ _ w.heap.size 26 _ (0, 0) _ rfl (set_row4 HR4.out) Tryz.underlying26 rfl size_arc) rfl ?_
      rw [HOUT.out]
      exact ⟨none, 0, none, 0, rfl, zero_at _, below_row4 HB4.out (Nat.le_refl _)⟩
  · have hec2 : ((ec : Int) == 0) = false := by rw [beq_eq_false_iff_ne]; omega
    have HOUT := Lib.hid (show out = (zeroA, 90) by rw [HDE.out, if_pos (.inl hec)])
    have hec3 : ¬ (ec : Int) = 0 := by omega
    clear hec
    have q0 := cell_of_row w3 _ 0 _ _ _ HR3.out
    have q1 := cell_of_row w3 _ 1 _ _ _ HR3.out
    have q2 := cell_of_row w3 _ 2 _ _ _ HR3.out
    have q3 := cell_of_row w3 _ 3 _ _ _ HR3.out
    have f0 := frozen_of_row w3 w.heap.size 0 _ _ HR3.out
    have f1 := frozen_of_row w3 w.heap.size 1 _ _ HR3.out
    have f2 := frozen_of_row w3 w.heap.size 2 _ _ HR3.out
    have f3 := frozen_of_row w3 w.heap.size 3 _ _ HR3.out
    go_wp2_with (fail)
    refine bodyPost_ret (results_row_tmp Tryz.results8 _ _ w.heap.size 26 _ (0, 0) _ rfl (set_row4 HR3.out) Tryz.underlying26 rfl size_arc) rfl ?_
    rw [HOUT.out]
    exact ⟨none, 0, none, 0, rfl, zero_at _, below_row4 HB3.out (Nat.le_refl _)⟩
end Go.Proofs.YtjajoiahgfafgaaGreatDoor
end
