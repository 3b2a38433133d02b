/- A receiver: a frame. -/
import Derived.Test.YtknoedlelmflhaaMux6
import Derived.Deep.RegionLaw
import Derived.Deep.AppendLies
namespace Go.Proofs.Ytknoedlelmflhaa
open Go.RowKit Go.Maps Plain


section
variable {S : Nat → Prop} {base bi n m : Nat} {r : Rcv} {Pb : Nat → Option Nat} {v : Value} {w : World}

theorem info_intM : (Try.prog.info? 3).map (fun i => (i.zero, i.size, i.bytes)) = some (some (.int .i64 0), 1, 8) := by kernel_rfl
def updP (Pb : Nat → Option Nat) (k b : Nat) : Nat → Option Nat := fun j => if j = k then some b else Pb j
theorem mapOf_upd {k b : Nat} (hk : k < 64) : mapOf (updP Pb k b) (.int .i64 (k : Nat)) = some (ptrV b) := by
  rw [mapOf_in hk]; simp [updP]
theorem mapOf_old {k b : Nat} (y : Value) (hy : y ≠ .int .i64 (k : Nat)) : mapOf (updP Pb k b) y = mapOf Pb y := by
  unfold mapOf
  split
  · rename_i j
    split
    · rename_i hj
      have : j.toNat ≠ k := fun e => hy (by rw [← e]; congr 1; omega)
      simp [updP, this]
    · rfl
  · rfl

/-- The receiver, behind a frame that it took. -/
theorem InIs.take {v' : Value} {w' : World} {k b : Nat} {a : Int} {t : List UInt8} {l : Bool} (h : InIs S base bi r n m Pb v w) (hbase : base ≤ w.heap.size) (hk : k < 64) (htk : takes r (k : Nat) a t = true)
    (hPK : Pb k = some b ∨ (Pb k = none ∧ w.heap.size < b)) (hlt : b < w'.heap.size) (hrow : w'.heap[b]? = some (.cells (tkRow ((r.f k).1 ++ t, l)) 85 (0, 0)))
    (hhead : w'.heap[bi]? = some (.cells #[.map (some m), v'] 76 (0, 0))) (hmap : MapIs Try.prog 3 w' m (n + 1) (mapOf (updP Pb k b)))
    (hown : w'.ownsRow base 3 1 v' (if l then r.d ++ [k] else r.d).length (intV (if l then r.d ++ [k] else r.d)))
    (hlies : ∀ g, v'.ownBlock = some g → v.ownBlock = some g ∨ (w.heap.size ≤ g ∧ g ≠ b)) (hon : Only (fun x => x = bi ∨ x = m ∨ x = b ∨ v.ownBlock = some x) w w') :
    Only S w w' ∧ InIs (Grow S w w') base bi (takeP r (k : Nat) a t l).1 (n + 1) m (updP Pb k b) v' w' := by
  have hO : Only S w w' := by
    refine ⟨hon.os, hon.tape, hon.output, hon.size, fun x hx hn => hon.block x hx ?_⟩
    rintro (rfl | rfl | rfl | e)
    · exact hn h.inS.1
    · exact hn h.inS.2.1
    · rcases hPK with e | ⟨_, e⟩
      · exact hn (h.inS.2.2.1 _ _ e)
      · omega
    · exact hn (h.inS.2.2.2 _ e)
  have he : (takeP r (k : Nat) a t l).1 = ⟨fun j => if j = k then ((r.f k).1 ++ t, l) else r.f j, if l then r.d ++ [k] else r.d⟩ := by
    unfold takeP; rw [htk]; simp
  have hok := h.ok.take (k : Nat) a t l
  rw [he] at hok ⊢
  have hbS : Pb k = some b ∨ ∀ x, S x → x ≠ b := by
    rcases hPK with e | ⟨_, e⟩
    · exact .inl e
    · exact .inr (fun x hx ex => by have := (h.lain x hx).2; omega)
  have hbi : b ≠ bi ∧ b ≠ m ∧ v.ownBlock ≠ some b := by
    rcases hbS with e | e
    · exact h.apart.2.2.2 _ _ e
    · exact ⟨fun e2 => e bi h.inS.1 e2.symm, fun e2 => e m h.inS.2.1 e2.symm, fun e2 => e b (h.inS.2.2.2 b e2) rfl⟩
  have hlt' : ∀ x, S x → x < w.heap.size := fun x hx => (h.lain x hx).2
  refine ⟨hO, hhead, hmap, hown, ?_, ?_, ?_, ?_, ?_, ?_, h.lain.grow hbase hO.size, hok⟩
  · intro j bj hj
    simp only [updP] at hj
    by_cases hjk : j = k
    · subst hjk
      rw [if_pos rfl] at hj
      injection hj with hj
      subst hj
      exact ⟨hk, by simpa using hrow⟩
    · rw [if_neg hjk] at hj
      have ha := h.apart.2.2.2 j bj hj
      have hS := h.inS.2.2.1 j bj hj
      have hne : bj ≠ b := fun e => by
        subst e
        rcases hbS with e | e
        · exact hjk (h.inj _ _ _ hj e)
        · exact e bj hS rfl
      refine ⟨(h.rows j bj hj).1, ?_⟩
      simp only [if_neg hjk]
      rw [hon.block bj (hlt' _ hS) (fun hq => hq.elim ha.1 fun hq => hq.elim ha.2.1 fun hq => hq.elim hne ha.2.2)]
      exact (h.rows j bj hj).2
  · intro j hj
    simp only [updP] at hj
    by_cases hjk : j = k
    · rw [if_pos hjk] at hj; cases hj
    · rw [if_neg hjk] at hj
      simp only [if_neg hjk]
      exact h.bare j hj
  · intro j j' c hj hj'
    simp only [updP] at hj hj'
    by_cases h1 : j = k <;> by_cases h2 : j' = k
    · omega
    · rw [if_pos h1] at hj; rw [if_neg h2] at hj'
      injection hj with hj
      subst hj
      rcases hbS with e | e
      · exact absurd (h.inj _ _ _ hj' e) h2
      · exact absurd rfl (e b (h.inS.2.2.1 _ _ hj'))
    · rw [if_neg h1] at hj; rw [if_pos h2] at hj'
      injection hj' with hj'
      subst hj'
      rcases hbS with e | e
      · exact absurd (h.inj _ _ _ hj e) h1
      · exact absurd rfl (e b (h.inS.2.2.1 _ _ hj))
    · rw [if_neg h1] at hj; rw [if_neg h2] at hj'
      exact h.inj _ _ _ hj hj'
  · have := h.few
    show (if l then r.d ++ [k] else r.d).length ≤ n + 1
    split
    · simp; omega
    · omega
  · have nb : ∀ x, S x → v.ownBlock ≠ some x → v'.ownBlock ≠ some x := fun x hx hv e => by
      rcases hlies x e with e1 | e1
      · exact hv e1
      · have := hlt' x hx; omega
    refine ⟨h.apart.1, nb _ h.inS.1 h.apart.2.1, nb _ h.inS.2.1 h.apart.2.2.1, fun j bj hj => ?_⟩
    simp only [updP] at hj
    by_cases hjk : j = k
    · rw [if_pos hjk] at hj
      injection hj with hj
      subst hj
      exact ⟨hbi.1, hbi.2.1, fun e => by
        rcases hlies _ e with e1 | e1
        · exact hbi.2.2 e1
        · exact e1.2 rfl⟩
    · rw [if_neg hjk] at hj
      have ha := h.apart.2.2.2 j bj hj
      exact ⟨ha.1, ha.2.1, nb _ (h.inS.2.2.1 j bj hj) ha.2.2⟩
  · refine ⟨.inl h.inS.1, .inl h.inS.2.1, fun j bj hj => ?_, fun g hg => ?_⟩
    · simp only [updP] at hj
      by_cases hjk : j = k
      · rw [if_pos hjk] at hj
        injection hj with hj
        subst hj
        rcases hPK with e | ⟨_, e⟩
        · exact .inl (h.inS.2.2.1 _ _ e)
        · exact .inr ⟨by omega, hlt⟩
      · rw [if_neg hjk] at hj
        exact .inl (h.inS.2.2.1 _ _ hj)
    · rcases hlies g hg with e | e
      · exact .inl (h.inS.2.2.2 g e)
      · exact .inr ⟨e.1, (hown.lt g hg).2⟩

/-- The same, and the call is done. -/
theorem InIs.take_last {W3 w4 : World} {k b g cap : Nat} {a : Int} {t x : List UInt8} (h : InIs S base bi r n m Pb v w) (hbase : base ≤ w.heap.size) (hk : k < 64) (htk : takes r (k : Nat) a t = true)
    (hPK : Pb k = some b ∨ (Pb k = none ∧ w.heap.size < b)) (hx : (r.f k).1 = x) (hB : b ≠ bi ∧ b ≠ m ∧ v.ownBlock ≠ some b)
    (hon : Only (fun y => y = m ∨ y = b) w W3) (hro : W3.heap[b]? = some (.cells (tkRow (x ++ t, true)) 85 (0, 0))) (hh : W3.heap[bi]? = some (.cells #[.map (some m), v] 76 (0, 0)))
    (hm3 : MapIs Try.prog 3 W3 m (n + 1) (mapOf (updP Pb k b))) (hO4 : Only (fun y => v.ownBlock = some y) W3 w4)
    (hown4 : w4.ownsRow base 3 1 (.slice (some ⟨g, 0, none⟩) (r.d.length + 1) cap) (r.d.length + 1) (intV r.d ++ [.int .i64 (k : Nat)])) (hl4 : v.ownBlock = some g ∨ W3.heap.size ≤ g) :
    (w4.cell? ⟨bi, 1, none⟩ = some v ∧ w4.frozen? ⟨bi, 1, none⟩ = false ∧ bi < w4.heap.size) ∧
    (∀ w5, w5 = w4.setCell ⟨bi, 1, none⟩ (.slice (some ⟨g, 0, none⟩) (r.d.length + 1) cap) → w5.cell? ⟨b, 0, none⟩ = some (.string ⟨(x ++ t).toArray⟩) ∧
      Only S w w5 ∧ InIs (Grow S w w5) base bi (takeP r (k : Nat) a t true).1 (n + 1) m (updP Pb k b) (.slice (some ⟨g, 0, none⟩) (r.d.length + 1) cap) w5) := by
  have hvbi := h.apart.2.1
  have hvm := h.apart.2.2.1
  have hb3 : b < W3.heap.size := (Array.getElem?_eq_some_iff.1 hro).1
  have hbi3 : bi < W3.heap.size := (Array.getElem?_eq_some_iff.1 hh).1
  have hsz3 : w.heap.size ≤ W3.heap.size := hon.size
  have hh4 : w4.heap[bi]? = some (.cells #[.map (some m), v] 76 (0, 0)) := by rw [hO4.block bi hbi3 hvbi]; exact hh
  have hr4 : w4.heap[b]? = some (.cells (tkRow (x ++ t, true)) 85 (0, 0)) := by rw [hO4.block b hb3 hB.2.2]; exact hro
  have hm4 := hm3.same (hO4.block m hm3.lt hvm)
  have hlies : ∀ g', (Value.slice (some ⟨g, 0, none⟩) (r.d.length + 1) cap).ownBlock = some g' → v.ownBlock = some g' ∨ W3.heap.size ≤ g' := fun g' hg' => by
    injection hg' with hg'
    subst hg'
    exact hl4
  refine ⟨⟨cell_of_row _ _ _ _ _ _ hh4, by unfold World.frozen?; rw [hh4]; simp, (Array.getElem?_eq_some_iff.1 hh4).1⟩, fun w5 hw5 => ?_⟩
  have hvb' : (Value.slice (some ⟨g, 0, none⟩) (r.d.length + 1) cap).ownBlock ≠ some bi := fun e => by
    rcases hlies bi e with e | e
    · exact hvbi e
    · omega
  have hh5 : w5.heap[bi]? = some (.cells #[.map (some m), .slice (some ⟨g, 0, none⟩) (r.d.length + 1) cap] 76 (0, 0)) := by rw [hw5, heap_set hh4]; rfl
  have hne5 : ∀ y, y ≠ bi → w5.heap[y]? = w4.heap[y]? := fun y hy => by rw [hw5]; exact Below.heap_setCell w4 _ _ y hy
  have hr5 : w5.heap[b]? = some (.cells (tkRow (x ++ t, true)) 85 (0, 0)) := by rw [hne5 b hB.1]; exact hr4
  have hb5 : b < w5.heap.size := (Array.getElem?_eq_some_iff.1 hr5).1
  have hm5 := hm4.same (hne5 m (fun e => h.apart.1 e.symm))
  have ho5 : Only (fun y => y = bi) w4 w5 := by rw [hw5]; exact (Only.refl (fun y => y = bi) w4).set (p := ⟨bi, 1, none⟩) (.inl rfl) _
  have hown5 : w5.ownsRow base 3 1 (.slice (some ⟨g, 0, none⟩) (r.d.length + 1) cap) (r.d ++ [k]).length (intV (r.d ++ [k])) := by
    rw [List.length_append, intV, List.map_append]
    exact own_only hown4 ho5 (fun g' hg' e => hvb' (e ▸ hg'))
  have hon5 : Only (fun y => y = bi ∨ y = m ∨ y = b ∨ v.ownBlock = some y) w w5 :=
    ((hon.mono (fun y hy => hy.elim (fun e => .inr (.inl e)) (fun e => .inr (.inr (.inl e))))).trans (hO4.mono (fun y hy => .inr (.inr (.inr hy))))).trans (ho5.mono (fun y hy => .inl hy))
  refine ⟨cell_of_row _ b 0 _ _ _ hr5, h.take (l := true) hbase hk htk hPK hb5 (by rw [hx]; exact hr5) hh5 hm5 (by simpa using hown5) (fun g' hg' => by
    rcases hlies g' hg' with e | e
    · exact .inl e
    · exact .inr ⟨by omega, by omega⟩) hon5⟩

/-- Frame that isn't taken: the number. -/
theorem Take_out (c a : Int) (t : List UInt8) (l : Bool) (w : World) (hc : c < 0 ∨ 64 ≤ c) (bi : Nat) :
    Calls Try.prog 14 #[.pointer (some ⟨bi, 0, none⟩), frmV c a t l] w (Ret w (.tuple #[.int .i64 0, .int .i64 160])) := by
  unfold frmV
  by_cases h0 : c < 0
  · go_enter Try.func14, Try.ntmps14
    go_wp2_with (fail)
    go_ret2
    exact ⟨rfl, (Below.refl _ _).alloc (Nat.le_refl _) _⟩
  · have h1 : 64 ≤ c := by omega
    clear hc
    go_enter Try.func14, Try.ntmps14
    go_wp2_with (fail)
    go_ret2
    exact ⟨rfl, (Below.refl _ _).alloc (Nat.le_refl _) _⟩

set_option maxRecDepth 20000 in
set_option maxHeartbeats 4000000 in
theorem Take_in (k : Nat) (a : Int) (t : List UInt8) (l : Bool) (w : World) (h : InAt S base bi r n w) (hbase : base ≤ w.heap.size) (hk : k < 64) (hn : n ≤ 1048576) (ht : t.length ≤ 9223372036854775807) (ha : -9223372036854775808 ≤ a) (ha2 : a ≤ 9223372036854775807) :
    Calls Try.prog 14 #[.pointer (some ⟨bi, 0, none⟩), frmV (k : Nat) a t l] w fun e w' => e = .returned (.tuple #[.int .i64 ((takeP r (k : Nat) a t l).2.1 : Nat), .int .i64 (takeP r (k : Nat) a t l).2.2]) ∧ Only S w w' ∧
      InAt (Grow S w w') base bi (takeP r (k : Nat) a t l).1 (n + 1) w' := by
  obtain ⟨m, Pb, v, h⟩ := h
  unfold frmV
  obtain ⟨wA, hwA⟩ : ∃ wA, wA = w.alloc (.cells #[.int .i64 (k : Nat), .int .i64 a, .string ⟨t.toArray⟩, .bool l] 37) := ⟨_, rfl⟩
  have hbA : Below w.heap.size w wA := by rw [hwA]; exact (Below.refl _ _).alloc (Nat.le_refl _) _
  have hA := h.below hbA
  obtain ⟨c0, c1⟩ := hA.facts
  have hl : ∀ q, (Instr.lookup 74 (.map (some m)) (.int .i64 (k : Nat)) false).run Try.prog (wA.drewN q) = .ok (((Pb k).map ptrV).getD (.pointer none)) (wA.drewN q) := fun q => by
    have := (hA.below (below_drewN (Below.refl _ _) q)).look (k : Nat) (by omega) (by omega)
    rwa [mapOf_in hk] at this
  have hfr : wA.heap[w.heap.size]? = some (.cells #[.int .i64 (k : Nat), .int .i64 a, .string ⟨t.toArray⟩, .bool l] 37 (0, 0)) := by rw [hwA]; exact heap_alloc_new w _
  have HFR := Lib.hid hfr
  have HWA := Lib.hid hwA
  have HH := Lib.hid h
  have HA := Lib.hid hA
  have HBA := Lib.hid hbA
  have hA0 : w.heap.size < wA.heap.size := (Array.getElem?_eq_some_iff.1 hfr).1
  have f0 := cell_of_row wA w.heap.size 0 _ _ _ hfr
  have f1 := cell_of_row wA w.heap.size 1 _ _ _ hfr
  have f2 := cell_of_row wA w.heap.size 2 _ _ _ hfr
  have f3 := cell_of_row wA w.heap.size 3 _ _ _ hfr
  simp at f0 f1 f2 f3
  have hlen := (h.ok k).1
  have HN := Lib.hid hn
  have HT := Lib.hid ht
  have HA1 := Lib.hid ha
  have HA2 := Lib.hid ha2
  clear hwA hfr h hA hbA hn ht ha ha2
  cases hp : Pb k
  case' some b =>
    rw [hp] at hl
    simp only [Option.map_some, Option.getD_some, ptrV] at hl
    have hrow := (HA.out.rows k b hp).2
    have hbne : b ≠ w.heap.size := by have := (HH.out.lain b (HH.out.inS.2.2.1 k b hp)).2; omega
    have HPK : Hid (Pb k = some b ∨ (Pb k = none ∧ w.heap.size < b)) := Lib.hid (.inl hp)
    have HROW := Lib.hid hrow
    clear hp hrow
    go_enter Try.func14, Try.ntmps14
    go_wp2_with (fail)
    rw [← HWA.out]
    go_quiet (fail)
    go_wp2_with (fail)
    have hbw : Below wA.heap.size wA (wA.drewN nq) := below_drewN (Below.refl _ _) _
    have hrw : (wA.drewN nq).heap[b]? = some (.cells (tkRow (r.f k)) 85 (0, 0)) := HROW.out
    clear hl HROW
    generalize hW : World.drewN wA _ = W at *
    clear hW
  case' none =>
    rw [hp] at hl
    simp only [Option.map_none, Option.getD_none] at hl
    have hrf := HA.out.bare k hp
    have HPK : Hid (Pb k = some wA.heap.size ∨ (Pb k = none ∧ w.heap.size < wA.heap.size)) := Lib.hid (.inr ⟨hp, hA0⟩)
    clear hp
    go_enter Try.func14, Try.ntmps14
    go_wp2_with (fail)
    rw [← HWA.out]
    go_quiet (fail)
    go_wp2_with (fail)
    have hbw : Below wA.heap.size wA ((wA.drewN nq).alloc (.cells #[.string ⟨#[]⟩, .bool false, .bool false] 85)) := (below_drewN (Below.refl _ _) _).alloc (Nat.le_refl _) _
    have hrw : ((wA.drewN nq).alloc (.cells #[.string ⟨#[]⟩, .bool false, .bool false] 85)).heap[wA.heap.size]? = some (.cells (tkRow (r.f k)) 85 (0, 0)) := by
      rw [hrf]; exact heap_alloc_new (wA.drewN nq) _
    have hbne : wA.heap.size ≠ w.heap.size := by omega
    clear hl hrf
    generalize hW : World.alloc (World.drewN wA _) _ = W at *
    generalize hb : wA.heap.size = b at hrw HPK hbne ⊢
    clear hW hb
  all_goals
    have c0' : W.cell? ⟨bi, 0, none⟩ = some (.map (some m)) := by rw [hbw.cell (World.block_lt_of_cell? _ _ c0)]; exact c0
    have g0 : W.cell? ⟨w.heap.size, 0, none⟩ = some (.int .i64 (k : Nat)) := by rw [hbw.cell hA0]; exact f0
    have g1 : W.cell? ⟨w.heap.size, 1, none⟩ = some (.int .i64 a) := by rw [hbw.cell hA0]; exact f1
    have g2 : W.cell? ⟨w.heap.size, 2, none⟩ = some (.string ⟨t.toArray⟩) := by rw [hbw.cell hA0]; exact f2
    have g3 : W.cell? ⟨w.heap.size, 3, none⟩ = some (.bool l) := by rw [hbw.cell hA0]; exact f3
    have q0 := cell_of_row W b 0 _ _ _ hrw
    have q2 := cell_of_row W b 2 _ _ _ hrw
    simp [tkRow] at q0 q2
    have hfb : ∀ j, W.frozen? ⟨b, j, none⟩ = false := fun j => by unfold World.frozen?; rw [hrw]; simp
    have HW := Lib.hid (show Below w.heap.size w W from HBA.out.trans (hbw.mono (by omega)))
    have HRW := Lib.hid hrw
    have HFB := Lib.hid hfb
    have C0 := Lib.hid c0'
    have hbW : b < W.heap.size := (Array.getElem?_eq_some_iff.1 hrw).1
    have hwW : w.heap.size < W.heap.size := by have := hbw.size; omega
    have htk : takes r (k : Int) a t = !((r.f k).2 || decide (a ≠ (r.f k).1.length) || decide (65536 - ((r.f k).1.length : Int) < t.length)) := by
      unfold takes; simp only [Int.toNat_natCast]; rw [decide_eq_false (by omega : ¬ ((k : Int) < 0)), decide_eq_false (by omega : ¬ ((64 : Int) ≤ k))]; simp
    have hok1 : ∀ w', Below w.heap.size w w' → takes r (k : Int) a t = false → ((Ending.returned (.tuple #[.int .i64 0, .int .i64 160])) = Ending.returned (.tuple #[.int .i64 ((takeP r (k : Nat) a t l).2.1 : Nat), .int .i64 (takeP r (k : Nat) a t l).2.2]) ∧ Only S w w' ∧ InAt (Grow S w w') base bi (takeP r (k : Nat) a t l).1 (n + 1) w') := fun w' hb' ht' => by
      have e : takeP r (k : Int) a t l = (r, 0, 160) := by unfold takeP; rw [ht']; rfl
      rw [e]
      exact ⟨rfl, Only.of_below hb', _, _, _, (HH.out.below hb').wider (fun b hb => .inl hb) (HH.out.lain.grow hbase hb'.size) (by omega)⟩
    have HTK := Lib.hid htk
    have HOK1 := Lib.hid hok1
    clear htk hok1 hfb hrw hbw c0 c1 c0' f0 f1 f2 f3
    generalize hx : (r.f k).1 = x at *
    generalize hdn : (r.f k).2 = dn at *
    have HX := Lib.hid hx
    have HDN := Lib.hid hdn
    clear hx hdn
    cases hd : dn
    case' true =>
      subst hd
      go_quiet (fail)
      go_wp2_with (fail)
      go_ret2
      exact HOK1.out _ (below_drewN HW.out _) (by rw [HTK.out]; simp)
    case' false =>
      subst hd
      by_cases hae : a = x.length
      case' neg =>
        have hae' : (a != (x.length : Int)) = true := by rw [bne_iff_ne]; exact hae
        go_quiet (fail)
        go_wp2_with (fail)
        go_ret2
        exact HOK1.out _ (below_drewN HW.out _) (by rw [HTK.out]; simp [hae])
      case' pos =>
        have hae' : (a != (x.length : Int)) = false := by rw [bne_eq_false_iff_eq]; exact hae
        have HAE := Lib.hid hae
        clear hae
        have hw5 : IntKind.i64.wrap (65536 - (x.length : Int)) = 65536 - (x.length : Int) := IntWalk.i64_in _ (by omega)
        by_cases hlt : 65536 - (x.length : Int) < t.length
        case' pos =>
          have hlt' : decide (65536 - (x.length : Int) < (t.length : Int)) = true := by simpa using hlt
          go_quiet (fail)
          go_wp2_with (fail)
          go_ret2
          exact HOK1.out _ (below_drewN HW.out _) (by rw [HTK.out]; simp [hlt])
        case' neg =>
          have hlt' : decide (65536 - (x.length : Int) < (t.length : Int)) = false := by simpa using hlt
          go_quiet (fail)
          clear hw5 hlt'
          have htkT : takes r (k : Int) a t = true := by rw [HTK.out]; simp [HAE.out]; omega
          have HTT := Lib.hid htkT
          have hl2 : x.length + t.length ≤ 65536 := by omega
          have fb0 := HFB.out 0
          have fb2 := HFB.out 2
          clear HTK htkT
          go_wp2_with (fail)
          replace g0 : (W.drewN nq).cell? ⟨w.heap.size, 0, none⟩ = some (.int .i64 (k : Nat)) := g0
          replace g2 : (W.drewN nq).cell? ⟨w.heap.size, 2, none⟩ = some (.string ⟨t.toArray⟩) := g2
          replace g3 : (W.drewN nq).cell? ⟨w.heap.size, 3, none⟩ = some (.bool l) := g3
          replace q0 : (W.drewN nq).cell? ⟨b, 0, none⟩ = some (.string ⟨x.toArray⟩) := q0
          replace q2 : (W.drewN nq).cell? ⟨b, 2, none⟩ = some (.bool false) := q2
          replace fb0 : (W.drewN nq).frozen? ⟨b, 0, none⟩ = false := fb0
          replace fb2 : (W.drewN nq).frozen? ⟨b, 2, none⟩ = false := fb2
          have HRW1 : Hid ((W.drewN nq).heap[b]? = some (.cells (tkRow (r.f k)) 85 (0, 0))) := HRW
          have HW1 : Hid (Below w.heap.size w (W.drewN nq)) := Lib.hid (below_drewN HW.out nq)
          have C01 : Hid ((W.drewN nq).cell? ⟨bi, 0, none⟩ = some (.map (some m))) := C0
          have hbW1 : b < (W.drewN nq).heap.size := hbW
          have hwW1 : w.heap.size < (W.drewN nq).heap.size := hwW
          clear HFB HRW HW C0 hbW hwW g1 HOK1
          generalize hW1 : World.drewN W nq = W1 at *
          clear hW1
          go_region
          go_wp2_with (fail)
          have hb12 : b ≠ bi ∧ b ≠ m ∧ v.ownBlock ≠ some b := by
            rcases HPK.out with e | ⟨_, e⟩
            · exact HH.out.apart.2.2.2 _ _ e
            · exact ⟨fun e2 => by have := (HH.out.lain bi HH.out.inS.1).2; omega, fun e2 => by have := (HH.out.lain m HH.out.inS.2.1).2; omega, fun e2 => by have := (HH.out.lain b (HH.out.inS.2.2.2 b e2)).2; omega⟩
          have hro : ((W1.setCell ⟨b, 0, none⟩ (.string ⟨(x ++ t).toArray⟩)).setCell ⟨b, 2, none⟩ (.bool l)).drew.heap[b]? = some (.cells (tkRow (x ++ t, l)) 85 (0, 0)) := by
            show (World.setCell _ _ _).heap[b]? = _
            rw [heap_set (heap_set HRW1.out _ _)]; rfl
          have hon2 : Only (fun y => y = b) w ((W1.setCell ⟨b, 0, none⟩ (.string ⟨(x ++ t).toArray⟩)).setCell ⟨b, 2, none⟩ (.bool l)).drew :=
            (((Only.of_below (S := fun y => y = b) HW1.out).set (.inl rfl) _).set (.inl rfl) _).drew
          have hg0 : ((W1.setCell ⟨b, 0, none⟩ (.string ⟨(x ++ t).toArray⟩)).setCell ⟨b, 2, none⟩ (.bool l)).drew.cell? ⟨w.heap.size, 0, none⟩ = some (.int .i64 (k : Nat)) := by
            have e1 : ((W1.setCell ⟨b, 0, none⟩ (.string ⟨(x ++ t).toArray⟩)).setCell ⟨b, 2, none⟩ (.bool l)).drew.heap[w.heap.size]? = W1.heap[w.heap.size]? := by
              show (World.setCell _ _ _).heap[_]? = _
              rw [Below.heap_setCell _ _ _ _ (by show w.heap.size ≠ b; omega), Below.heap_setCell _ _ _ _ (by show w.heap.size ≠ b; omega)]
            rw [World.cell?_of_block e1]; exact g0
          have hw2 : w.heap.size < ((W1.setCell ⟨b, 0, none⟩ (.string ⟨(x ++ t).toArray⟩)).setCell ⟨b, 2, none⟩ (.bool l)).drew.heap.size := by
            have := World.block_lt_of_cell? _ _ hg0; exact this
          generalize hW2 : World.drew _ = W2 at *
          have hhead2 : W2.heap[bi]? = some (.cells #[.map (some m), v] 76 (0, 0)) := by
            rw [hon2.block bi (HH.out.lain bi HH.out.inS.1).2 (fun e => hb12.1 e.symm)]; exact HH.out.head
          have hm2 : MapIs Try.prog 3 W2 m n (mapOf Pb) := HH.out.maps.same (hon2.block m (HH.out.lain m HH.out.inS.2.1).2 (fun e => hb12.2.1 e.symm))
          have hown2 : W2.ownsRow base 3 1 v r.d.length (intV r.d) := own_only HH.out.own hon2 (fun g hg e => hb12.2.2 (e ▸ hg))
          obtain ⟨o, hup, hmp⟩ := hm2.store (v := ptrV b) (int_keyed Try.underlying3) Try.underlying74 (key_int (k : Nat) (by omega) (by omega)) (mapOf (updP Pb k b)) mapOf_old (mapOf_upd hk)
          obtain ⟨W3, hW3⟩ : ∃ W3 : World, W3 = { heap := W2.heap.setIfInBounds m o, tape := W2.drew.tape, drawn := W2.drew.drawn, os := W2.drew.os, output := W2.drew.output } := ⟨_, rfl⟩
          have hup2 : (Instr.mapUpdate 74 (.map (some m)) (.int .i64 (k : Nat)) (.pointer (some ⟨b, 0, none⟩))).run Try.prog W2.drew = .ok () W3 := by rw [hW3]; exact hup _ rfl
          have hmlt : m < W2.heap.size := hm2.lt
          have hon3 : Only (fun y => y = m) W2 W3 := by
            rw [hW3]
            refine ⟨rfl, rfl, rfl, by simp, fun y hy hne => ?_⟩
            show (W2.heap.setIfInBounds m o)[y]? = _
            rw [Array.getElem?_setIfInBounds_ne (fun e => hne e.symm)]
          have hm3 : W3.heap[m]? = some o := by
            rw [hW3]
            show (W2.heap.setIfInBounds m o)[m]? = _
            rw [Array.getElem?_setIfInBounds_self_of_lt hmlt]
          have hmap3 := hmp W3 hm3
          have hmw : m < w.heap.size := (HH.out.lain m HH.out.inS.2.1).2
          have hbiw : bi < w.heap.size := (HH.out.lain bi HH.out.inS.1).2
          have hb2 : b < W2.heap.size := (Array.getElem?_eq_some_iff.1 hro).1
          have hro3 : W3.heap[b]? = some (.cells (tkRow (x ++ t, l)) 85 (0, 0)) := by rw [hon3.block b hb2 hb12.2.1]; exact hro
          have hhead3 : W3.heap[bi]? = some (.cells #[.map (some m), v] 76 (0, 0)) := by rw [hon3.block bi (by omega) HH.out.apart.1]; exact hhead2
          have hg3 : W3.cell? ⟨w.heap.size, 0, none⟩ = some (.int .i64 (k : Nat)) := by rw [World.cell?_of_block (hon3.block w.heap.size hw2 (by omega))]; exact hg0
          have hown3 : W3.ownsRow base 3 1 v r.d.length (intV r.d) := own_only hown2 hon3 (fun g hg e => HH.out.apart.2.2.1 (e ▸ hg))
          have hw3 : w.heap.size < W3.heap.size := by have := hon3.size; omega
          have hon3' : Only (fun y => y = m ∨ y = b) w W3 := (hon2.mono (fun y hy => .inr hy)).trans (hon3.mono (fun y hy => .inl hy))
          have c02 : W2.cell? ⟨bi, 0, none⟩ = some (.map (some m)) := cell_of_row _ _ _ _ _ _ hhead2
          have q32 := cell_of_row W3 b 2 _ _ _ hro3
          have q30 := cell_of_row W3 b 0 _ _ _ hro3
          simp [tkRow] at q32 q30
          have c30 : W3.cell? ⟨bi, 1, none⟩ = some v := cell_of_row _ _ _ _ _ _ hhead3
          have fbi : W3.frozen? ⟨bi, 1, none⟩ = false := by unfold World.frozen?; rw [hhead3]; simp
          have hbne2 := hb12.1
          have HRO := Lib.hid hro3
          have HH3 := Lib.hid hhead3
          have HM3 := Lib.hid hmap3
          have HOWN := Lib.hid hown3
          have HB12 := Lib.hid hb12
          have HON3 := Lib.hid hon3'
          have HUP := Lib.hid hup
          clear hro hon2 hhead2 hm2 hup hmp hown2 hb12 hW2 g0 g2 g3 q0 q2 fb0 fb2 HRW1 HW1 C01 hbW1 hwW1 HFR HWA HA HBA hA0 hW3 hon3 hm3 hmap3 hro3 hhead3 hown3 hon3' hmw hmlt
          have hres : (takeP r (k : Int) a t l).2 = ((x ++ t).length, 0) := by unfold takeP; rw [HTT.out]; simp [HX.out]
          have hb3 : b < W3.heap.size := (Array.getElem?_eq_some_iff.1 HRO.out).1
          have HRES := Lib.hid hres
          clear hres
          cases l
          case' false =>
            go_region
            go_wp2_with (fail)
            go_ret2
            have hfin := HH.out.take hbase hk HTT.out HPK.out hb3 (by rw [HX.out]; exact HRO.out) HH3.out HM3.out (by simpa using HOWN.out) (fun g hg => .inl hg) (HON3.out.mono (fun y hy => hy.elim (fun e => .inr (.inl e)) (fun e => .inr (.inr (.inl e)))))
            exact ⟨by rw [HRES.out]; simp, hfin.1, _, _, _, hfin.2⟩
          case' true =>
            have hn := HN.out
            have hfew := HH.out.few
            have hbi3 : bi < W3.heap.size := by omega
            obtain ⟨i0, hi, hz0, hz1, hz2⟩ := info_parts info_intM
            have HI := Lib.hid (And.intro hi (And.intro hz0 (And.intro hz1 hz2)))
            clear hi hz0 hz1 hz2
            go_region
            go_wp2_with (fail)
            go_region_law (refine step_append_lies _ rfl _ _ 25 rfl base 3 i0 (.int .i64 0) 1 8 Try.underlying25 HI.out.1 HI.out.2.1 HI.out.2.2.1 HI.out.2.2.2 rfl (by decide) _ _ _ rfl ((show (World.drew W3).ownsRow base 3 1 v r.d.length (intV r.d) from HOWN.out).alloc _) ⟨W3.heap.size, 0, none⟩ 1 1 [.int .i64 (k : Nat)] rfl rfl (laid_one (World.drew W3) _ _) (one_oneCell rfl) (by decide) (by unfold maxLen; omega) (by omega) (by show base ≤ (World.alloc (World.drew W3) _).heap.size; simp; omega) (W3.heap.size + 1) (by simp) ?_; intro g cap w4 hown4 hg4 hl4 hgl; have hO4 := (((Only.refl (fun y => v.ownBlock = some y) W3).drew).alloc _).more (Only.of_gb hg4 (fun g' hg' => .inl hg')); obtain ⟨⟨c41, f41, b41⟩, hfin⟩ := HH.out.take_last hbase hk HTT.out HPK.out HX.out HB12.out HON3.out HRO.out HH3.out HM3.out hO4 hown4 (hl4.imp id (fun e => by omega)); have HFIN := Lib.hid hfin; clear hfin hO4 hown4 hg4)
            all_goals
              obtain ⟨q5, hfin⟩ := HFIN.out _ rfl
              have HF := Lib.hid hfin
              clear hfin HFIN c41 f41 b41
              generalize World.setCell w4 _ _ = w5 at *
              go_wp2_with (fail)
              go_ret2
              exact ⟨by rw [HRES.out]; simp, HF.out.1, _, _, _, HF.out.2⟩
end
end Go.Proofs.Ytknoedlelmflhaa
