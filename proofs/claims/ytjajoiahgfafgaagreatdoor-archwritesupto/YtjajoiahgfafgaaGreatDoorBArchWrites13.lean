/- Texts joined: ArchR3, OpenT, Trod, Card, ArchOpen. -/
import Derived.Test.YtjajoiahgfafgaaGreatDoorBArchWrites12
import Derived.Test.YtjajoiahgfafgaaGreatDoorBCodeBaseC2
import Derived.Test.YtjajoiahgfafgaaGreatDoorBArchWrites3
import Derived.Lib.SmallJoins
import Derived.Test.YtjajoiahgfafgaaGreatDoorBCodeBaseC1
import Derived.ChangeArms
import Derived.Test.YtjajoiahgfafgaaGreatDoorCards
import Derived.Test.YtjajoiahgfafgaaGreatDoorTie
import Derived.Deep.DeepHandedRow
import Derived.Test.YtjajoiahgfafgaaGreatDoorBArchWrites7
set_option linter.unusedSimpArgs false
set_option linter.unusedVariables false

/- The document's Decode of archives. -/
section
set_option linter.unusedVariables false
namespace Go.Proofs.YtjajoiahgfafgaaGreatDoor
open Go.RowKit Plain

theorem RR.same {br : Nat} {st : St} {W W' : World} (h : RR br st W) (e : W'.heap[br]? = W.heap[br]?) : RR br st W' := by
  obtain ⟨s, a, h⟩ := h
  exact ⟨s, a, e.trans h.row, h.le, h.rest, h.short⟩
theorem RR.block {br : Nat} {st : St} {W : World} (h : RR br st W) : ∃ c, W.heap[br]? = some (.cells c 60 (0, 0)) := by
  obtain ⟨s, a, h⟩ := h
  exact ⟨_, h.row⟩
/-- An archive that the document reads: the reader, the archive's block, its two rows, the result's block. -/
structure Dq (w0 : World) (br ab : Nat) (pair : List UInt8) (serial : Int) (t : List Nd) (k : List Stp) (st : St) (vT vS : Value) (W : World) : Prop where
  rd : RR br st W
  arc : W.heap[ab]? = some (.cells #[.string ⟨pair.toArray⟩, .int .i64 serial, vT, vS] 26 (0, 0))
  nodes : W.ownsRow w0.heap.size 41 4 vT t.length (rowsE ndV t)
  stamps : W.ownsRow w0.heap.size 55 3 vS k.length (rowsE stV k)
  res : W.heap[w0.heap.size]? = some (.cells #[.string ⟨#[]⟩, .int .i64 0, .slice none 0 0, .slice none 0 0] 26 (0, 0))
  old : Below w0.heap.size w0 W
  nr : ab ≠ w0.heap.size
  newA : w0.heap.size ≤ ab
  newB : w0.heap.size ≤ br
section
variable {w0 W W' : World} {br ab : Nat} {pair : List UInt8} {serial : Int} {t : List Nd} {k : List Stp} {st st' : St} {vT vS : Value}
theorem Dq.below (h : Dq w0 br ab pair serial t k st vT vS W) (hb : Below W.heap.size W W') : Dq w0 br ab pair serial t k st vT vS W' :=
  ⟨h.rd.below hb, (hb.block _ (lt_of_heap h.arc)).trans h.arc, h.nodes.kept (row := none) ⟨hb.os, hb.tape, hb.output, hb.size, fun i hi _ => hb.block i hi⟩ (by cases vT.ownBlock <;> simp), h.stamps.kept (row := none) ⟨hb.os, hb.tape, hb.output, hb.size, fun i hi _ => hb.block i hi⟩ (by cases vS.ownBlock <;> simp),
    (hb.block _ (lt_of_heap h.res)).trans h.res, h.old.trans (hb.mono h.old.size), h.nr, h.newA, h.newB⟩
theorem Dq.read (h : Dq w0 br ab pair serial t k st vT vS W) (hr : RR br st' W') (hg : W.grownBy W' (some br)) : Dq w0 br ab pair serial t k st' vT vS W' := by
  obtain ⟨cr, hcr⟩ := h.rd.block
  exact ⟨hr, (hg.block _ (lt_of_heap h.arc) (by intro e; injection e with e; exact ne_blocks h.arc hcr (by decide) e)).trans h.arc, own_kept_block h.nodes hcr hg (by decide), own_kept_block h.stamps hcr hg (by decide),
    (hg.block _ (lt_of_heap h.res) (by intro e; injection e with e; exact ne_blocks h.res hcr (by decide) e)).trans h.res, h.old.grown hg h.old.size (fun i hi => by injection hi with hi; rw [← hi]; exact h.newB), h.nr, h.newA, h.newB⟩
theorem Dq.pairS (h : Dq w0 br ab pair serial t k st vT vS W) (p : List UInt8) : Dq w0 br ab p serial t k st vT vS (W.setCell ⟨ab, 0, none⟩ (.string ⟨p.toArray⟩)) := by
  obtain ⟨cr, hcr⟩ := h.rd.block
  have gA : W.grownBy (W.setCell ⟨ab, 0, none⟩ (.string ⟨p.toArray⟩)) (some ab) := gb_set (gb_refl _ _) (.inl rfl) _
  exact ⟨h.rd.same (heap_set_ne (ne_blocks hcr h.arc (by decide)) _ _), by rw [heap_set h.arc]; rfl, own_kept_block h.nodes h.arc gA (by decide), own_kept_block h.stamps h.arc gA (by decide), (heap_set_ne (fun e => h.nr e.symm) _ _).trans h.res,
    h.old.setCell (p := ⟨ab, 0, none⟩) h.newA _, h.nr, h.newA, h.newB⟩
theorem Dq.serialS (h : Dq w0 br ab pair serial t k st vT vS W) (n : Int) : Dq w0 br ab pair n t k st vT vS (W.setCell ⟨ab, 1, none⟩ (.int .i64 n)) := by
  obtain ⟨cr, hcr⟩ := h.rd.block
  have gA : W.grownBy (W.setCell ⟨ab, 1, none⟩ (.int .i64 n)) (some ab) := gb_set (gb_refl _ _) (.inl rfl) _
  exact ⟨h.rd.same (heap_set_ne (ne_blocks hcr h.arc (by decide)) _ _), by rw [heap_set h.arc]; rfl, own_kept_block h.nodes h.arc gA (by decide), own_kept_block h.stamps h.arc gA (by decide), (heap_set_ne (fun e => h.nr e.symm) _ _).trans h.res,
    h.old.setCell (p := ⟨ab, 1, none⟩) h.newA _, h.nr, h.newA, h.newB⟩
theorem Dq.arc_far (h : Dq w0 br ab pair serial t k st vT vS W) (hg : W.grownBy W' vT.ownBlock) : W'.heap[ab]? = some (.cells #[.string ⟨pair.toArray⟩, .int .i64 serial, vT, vS] 26 (0, 0)) :=
  (hg.block _ (lt_of_heap h.arc) (fun e => by
    rcases h.nodes.2 with ⟨rfl, _⟩ | ⟨g, cap, cur, rfl, _, hh, _⟩
    · cases e
    · injection e with e
      exact ne_blocks h.arc hh (by decide) e)).trans h.arc
theorem Dq.arc_farS (h : Dq w0 br ab pair serial t k st vT vS W) (hg : W.grownBy W' vS.ownBlock) : W'.heap[ab]? = some (.cells #[.string ⟨pair.toArray⟩, .int .i64 serial, vT, vS] 26 (0, 0)) :=
  (hg.block _ (lt_of_heap h.arc) (fun e => by
    rcases h.stamps.2 with ⟨rfl, _⟩ | ⟨g, cap, cur, rfl, _, hh, _⟩
    · cases e
    · injection e with e
      exact ne_blocks h.arc hh (by decide) e)).trans h.arc
theorem Dq.node (h : Dq w0 br ab pair serial t k st vT vS W) {v' : Value} {x : Nd} (hown : W'.ownsRow w0.heap.size 41 4 v' (t.length + 1) (rowsE ndV t ++ ndV x)) (hg : W.grownBy W' vT.ownBlock) :
    Dq w0 br ab pair serial (t ++ [x]) k st v' vS (W'.setCell ⟨ab, 2, none⟩ v') := by
  obtain ⟨cr, hcr⟩ := h.rd.block
  have hne : ∀ y c ty f, W.heap[y]? = some (.cells c ty f) → ty ≠ 41 → some y ≠ vT.ownBlock := fun y c ty f hy hty e => by
    rcases h.nodes.2 with ⟨rfl, _⟩ | ⟨g, cap, cur, rfl, _, hh, _⟩
    · cases e
    · injection e with e
      exact ne_blocks hy hh hty e
  have hA := (hg.block _ (lt_of_heap h.arc) (hne _ _ _ _ h.arc (by decide))).trans h.arc
  have hO := (hg.block _ (lt_of_heap hcr) (hne _ _ _ _ hcr (by decide)))
  have hR := (hg.block _ (lt_of_heap h.res) (hne _ _ _ _ h.res (by decide))).trans h.res
  have hS := own_unlikeA h.stamps h.nodes (by decide) hg
  have gA : W'.grownBy (W'.setCell ⟨ab, 2, none⟩ v') (some ab) := gb_set (gb_refl _ _) (.inl rfl) _
  have hrow : (W'.setCell ⟨ab, 2, none⟩ v').ownsRow w0.heap.size 41 4 v' (t ++ [x]).length (rowsE ndV (t ++ [x])) := by
    have := own_kept_block hown hA gA (by decide)
    rw [List.length_append, rowsE_append, rowsE_one]
    exact this
  exact ⟨(h.rd.same hO).same (heap_set_ne (ne_blocks (hO.trans hcr) hA (by decide)) _ _), by rw [heap_set hA]; rfl, hrow, own_kept_block hS hA gA (by decide), (heap_set_ne (fun e => h.nr e.symm) _ _).trans hR,
    (h.old.grown hg h.old.size (fun i hi => (h.nodes.lt i hi).1)).setCell (p := ⟨ab, 2, none⟩) h.newA _, h.nr, h.newA, h.newB⟩
theorem Dq.stamp (h : Dq w0 br ab pair serial t k st vT vS W) {v' : Value} {x : Stp} (hown : W'.ownsRow w0.heap.size 55 3 v' (k.length + 1) (rowsE stV k ++ stV x)) (hg : W.grownBy W' vS.ownBlock) :
    Dq w0 br ab pair serial t (k ++ [x]) st vT v' (W'.setCell ⟨ab, 3, none⟩ v') := by
  obtain ⟨cr, hcr⟩ := h.rd.block
  have hne : ∀ y c ty f, W.heap[y]? = some (.cells c ty f) → ty ≠ 55 → some y ≠ vS.ownBlock := fun y c ty f hy hty e => by
    rcases h.stamps.2 with ⟨rfl, _⟩ | ⟨g, cap, cur, rfl, _, hh, _⟩
    · cases e
    · injection e with e
      exact ne_blocks hy hh hty e
  have hA := (hg.block _ (lt_of_heap h.arc) (hne _ _ _ _ h.arc (by decide))).trans h.arc
  have hO := (hg.block _ (lt_of_heap hcr) (hne _ _ _ _ hcr (by decide)))
  have hR := (hg.block _ (lt_of_heap h.res) (hne _ _ _ _ h.res (by decide))).trans h.res
  have hS := own_unlikeA h.nodes h.stamps (by decide) hg
  have gA : W'.grownBy (W'.setCell ⟨ab, 3, none⟩ v') (some ab) := gb_set (gb_refl _ _) (.inl rfl) _
  have hrow : (W'.setCell ⟨ab, 3, none⟩ v').ownsRow w0.heap.size 55 3 v' (k ++ [x]).length (rowsE stV (k ++ [x])) := by
    have := own_kept_block hown hA gA (by decide)
    rw [List.length_append, rowsE_append, rowsE_one]
    exact this
  exact ⟨(h.rd.same hO).same (heap_set_ne (ne_blocks (hO.trans hcr) hA (by decide)) _ _), by rw [heap_set hA]; rfl, own_kept_block hS hA gA (by decide), hrow, (heap_set_ne (fun e => h.nr e.symm) _ _).trans hR,
    (h.old.grown hg h.old.size (fun i hi => (h.stamps.lt i hi).1)).setCell (p := ⟨ab, 3, none⟩) h.newA _, h.nr, h.newA, h.newB⟩
end
/-- a node and a stamp that are being read -/
structure Ph (wr : World) (br nb mb : Nat) (st : St) (rowN rowS : Array Value) (W : World) : Prop where
  rd : RR br st W
  gb : wr.grownBy W (some br)
  nd : W.heap[nb]? = some (.cells rowN 41 (0, 0))
  sp : W.heap[mb]? = some (.cells rowS 55 (0, 0))
  n1 : wr.heap.size ≤ nb
  n2 : wr.heap.size ≤ mb
section
variable {wr W W' : World} {br nb mb : Nat} {st st' : St} {rowN rowS : Array Value}
theorem Ph.read (h : Ph wr br nb mb st rowN rowS W) (hr : RR br st' W') (hg : W.grownBy W' (some br)) : Ph wr br nb mb st' rowN rowS W' := by
  obtain ⟨cr, hcr⟩ := h.rd.block
  exact ⟨hr, gb_trans' h.gb hg, (hg.block _ (lt_of_heap h.nd) (by intro e; injection e with e; exact ne_blocks h.nd hcr (by decide) e)).trans h.nd, (hg.block _ (lt_of_heap h.sp) (by intro e; injection e with e; exact ne_blocks h.sp hcr (by decide) e)).trans h.sp, h.n1, h.n2⟩
theorem Ph.setN (h : Ph wr br nb mb st rowN rowS W) (k : Nat) (v : Value) : Ph wr br nb mb st (rowN.setIfInBounds k v) rowS (W.setCell ⟨nb, k, none⟩ v) := by
  obtain ⟨cr, hcr⟩ := h.rd.block
  exact ⟨h.rd.same (heap_set_ne (ne_blocks hcr h.nd (by decide)) _ _), gb_set h.gb (.inr h.n1) _, heap_set h.nd _ _, (heap_set_ne (ne_blocks h.sp h.nd (by decide)) _ _).trans h.sp, h.n1, h.n2⟩
theorem Ph.setS (h : Ph wr br nb mb st rowN rowS W) (k : Nat) (v : Value) : Ph wr br nb mb st rowN (rowS.setIfInBounds k v) (W.setCell ⟨mb, k, none⟩ v) := by
  obtain ⟨cr, hcr⟩ := h.rd.block
  exact ⟨h.rd.same (heap_set_ne (ne_blocks hcr h.sp (by decide)) _ _), gb_set h.gb (.inr h.n2) _, (heap_set_ne (ne_blocks h.nd h.sp (by decide)) _ _).trans h.nd, heap_set h.sp _ _, h.n1, h.n2⟩
end

set_option maxHeartbeats 4000000 in
theorem textR_most {most : Int} (st : St) (h : 0 ≤ most) : ((textR most st).length : Int) ≤ most := by
  unfold textR
  by_cases h1 : st.2 ≠ 0
  · rw [if_pos h1]; simpa using h
  · rw [if_neg h1]
    by_cases h2 : (numR st.1).2.2 ≠ 0
    · rw [if_pos h2]; simpa using h
    · rw [if_neg h2]
      by_cases h3 : (passText most (numR st.1).1 (numR st.1).2.1).2 ≠ 0
      · rw [if_pos h3]; simpa using h
      · rw [if_neg h3, List.length_take]
        have : ¬ most < ((numR st.1).1 : Int) := by
          intro h4; apply h3; unfold passText; rw [if_pos h4]; decide
        omega
set_option maxRecDepth 100000 in
theorem rdecode_any (s : List UInt8) (w : World) (hs : s.length ≤ 9223372036854775807) :
    Calls Tryz.prog 9 #[.string ⟨s.toArray⟩] w (ArcOut w (decodeA s)) := by
  obtain ⟨it0, hi, hz0, hz1, hz2⟩ := info_parts info_nodeA
  obtain ⟨jt0, hj, hy0, hy1, hy2⟩ := info_parts info_stampA
  have HI := Lib.hid hi
  have HJ := Lib.hid hj
  have HON := Lib.hid (fun W => One_ref s W hs)
  have hpl := one_len s
  obtain ⟨out, hout⟩ : ∃ o, o = decodeA s := ⟨_, rfl⟩
  rw [← hout]
  unfold decodeA at hout
  generalize one s = pe at *
  obtain ⟨p, ec⟩ := pe
  simp only at hpl hout HON
  have HDE := Lib.hid hout
  clear hout
  have HPL := Lib.hid hpl
  obtain ⟨w1, hw1⟩ : ∃ w1, w.alloc (.cells #[.string ⟨#[]⟩, .int .i64 0, .slice none 0 0, .slice none 0 0] 26) = w1 := ⟨_, rfl⟩
  have HW1 := Lib.hid hw1
  have HB1 := Lib.hid (show Below w.heap.size w w1 by rw [← hw1]; exact (Below.refl w.heap.size w).alloc (Nat.le_refl _) _)
  have HR1 := Lib.hid (show w1.heap[w.heap.size]? = some (.cells #[.string ⟨#[]⟩, .int .i64 0, .slice none 0 0, .slice none 0 0] 26 (0, 0)) by rw [← hw1]; exact heap_alloc_new _ _)
  clear hi hj hpl hw1
  go_enter Tryz.func9, Tryz.ntmps9
  go_upto_region 1 with (fail)
  rw [HW1.out]
  go_wp2_with (fail)
  refine (HON.out _).mono ?_
  rintro e w2 ⟨rfl, hb2⟩
  have HR2 := Lib.hid ((hb2.block _ (lt_of_heap HR1.out)).trans HR1.out)
  have HB2 := Lib.hid (HB1.out.trans (hb2.mono HB1.out.size))
  clear hb2
  by_cases hec : ec = 0
  · subst hec
    obtain ⟨w3, hw3⟩ : ∃ w3, (w2.alloc (.cells #[.string ⟨p.toArray⟩, .int .i64 0, .int .i64 0] 60)).alloc (.cells #[.string ⟨#[]⟩, .int .i64 0, .slice none 0 0, .slice none 0 0] 26) = w3 := ⟨_, rfl⟩
    have HW3 := Lib.hid hw3
    have hb3 := (show Below w2.heap.size w2 w3 by rw [← hw3]; exact ((Below.refl _ _).alloc (Nat.le_refl _) _).alloc (by simp) _)
    have HLT := Lib.hid (lt_of_heap HR2.out)
    have HD3 : Hid (Dq w w2.heap.size (w2.heap.size + 1) [] 0 [] [] (p, 0) (.slice none 0 0) (.slice none 0 0) w3) := Lib.hid
      ⟨⟨p, 0, by rw [← hw3, Below.heap_alloc _ _ _ (by simp)]; exact heap_alloc_new _ _, Nat.zero_le _, rfl, by have := HPL.out; omega⟩, by have h := heap_alloc_new (w2.alloc (.cells #[.string ⟨p.toArray⟩, .int .i64 0, .int .i64 0] 60)) (.cells #[.string ⟨#[]⟩, .int .i64 0, .slice none 0 0, .slice none 0 0] 26); rw [← hw3]; simpa using h,
        World.ownsRow_nil _ _ _ _, World.ownsRow_nil _ _ _ _, (hb3.block _ (lt_of_heap HR2.out)).trans HR2.out, HB2.out.trans (hb3.mono HB2.out.size), by have := HLT.out; omega, by have := HLT.out; omega, by have := HLT.out; omega⟩
    clear hw3 hb3
    generalize hbr : w2.heap.size = br at *
    generalize hab : br + 1 = ab at *
    go_upto_region 6 with (fail)
    rw [HW3.out]
    have htx := RefRText_st br 8 (p, 0) w3 HD3.out.rd
    by_cases hmg : textR 8 (p, 0) = magicB
    · rw [hmg, show magicB = [104, 97, 119, 115, 101, 114, 32, 49] from rfl] at htx
      have HTX := Lib.hid htx
      have HDE2 := Lib.hid (show out = doneA (readH p) (readNs (readH p).count (readH p).rest).1 (readNs (readH p).count (readH p).rest).2 by rw [HDE.out, if_neg (by simp [hmg])])
      have HRH := Lib.hid (show readH p = ⟨textR 8 (p, 0), textR 64 (takeR (passText 8) (p, 0)).2, (takeR passNum (takeR (passText 64) (takeR (passText 8) (p, 0)).2).2).1, (takeR (passCount 1000 7) (takeR passNum (takeR (passText 64) (takeR (passText 8) (p, 0)).2).2).2).1, (takeR (passCount 1000 7) (takeR passNum (takeR (passText 64) (takeR (passText 8) (p, 0)).2).2).2).2⟩ from rfl)
      clear htx hmg
      go_wp2_with (fail)
      refine HTX.out.mono ?_
      rintro e w4 ⟨rfl, hrd, hg⟩
      have HD4 := Lib.hid (HD3.out.read hrd hg)
      clear hrd hg HTX
      generalize (takeR (passText 8) (p, 0)).2 = s1 at *
      go_wp2_with (fail)
      refine (RefRText_st br 64 s1 w4 HD4.out.rd).mono ?_
      rintro e w5 ⟨rfl, hrd, hg⟩
      have HD5 := Lib.hid (HD4.out.read hrd hg)
      have HPL5 := Lib.hid (show (textR 64 s1).length ≤ 140737488355328 from Nat.le_trans (textR_len 64 s1) HD4.out.rd.shortS)
      clear hrd hg
      generalize textR 64 s1 = pair at *
      generalize (takeR (passText 64) s1).2 = s2 at *
      have HD6 := Lib.hid (HD5.out.pairS pair)
      have z0 := cell_of_row w5 _ 0 _ _ _ HD5.out.arc
      have f0 := frozen_of_row w5 ab 0 _ _ HD5.out.arc
      go_wp2_with (fail)
      clear z0 f0 HD5
      generalize w5.setCell ⟨ab, 0, none⟩ (.string ⟨pair.toArray⟩) = w6 at *
      refine (RefRNum_st br s2 w6 HD6.out.rd).mono ?_
      rintro e w7 ⟨rfl, hrd, hg⟩
      have HD7 := Lib.hid (HD6.out.read hrd hg)
      clear hrd hg
      generalize (takeR passNum s2).1 = sr at *
      generalize (takeR passNum s2).2 = s3 at *
      have HD8 := Lib.hid (HD7.out.serialS (sr : Nat))
      have z0 := cell_of_row w7 _ 1 _ _ _ HD7.out.arc
      have f0 := frozen_of_row w7 ab 1 _ _ HD7.out.arc
      go_wp2_with (fail)
      clear z0 f0 HD7
      generalize w7.setCell ⟨ab, 1, none⟩ (.int .i64 (sr : Nat)) = w8 at *
      refine (RefRCount_st br s3 w8 HD8.out.rd).mono ?_
      rintro e w9 ⟨rfl, hrd, hg⟩
      have HD9 := Lib.hid (HD8.out.read hrd hg)
      have HCN := Lib.hid (count_le 1000 7 s3 (by decide))
      clear hrd hg
      generalize (takeR (passCount 1000 7) s3).1 = n at *
      generalize (takeR (passCount 1000 7) s3).2 = s4 at *
      have hn : n ≤ 1000 := by have := HCN.out; omega
      obtain ⟨res, hres⟩ : ∃ r, readNs n s4 = r := ⟨_, rfl⟩
      have HRES := Lib.hid (show (([] : List (Nd × Stp)) ++ (readNs (n - 0) s4).1, (readNs (n - 0) s4).2) = res from by rw [← hres]; rfl)
      have HOUT2 := Lib.hid (show out = doneA (readH p) res.1 res.2 by rw [HDE2.out, HRH.out]; simp only; rw [hres])
      clear hres HD8 HD6 HD4 HD3
      go_wp2_with (fail)
      go_loopw [9] (fun t9 W => ∃ (i : Nat) (l : List (Nd × Stp)) (st : St) (vT vS : Value), i ≤ n ∧ l.length = i ∧ t9 = .int .i64 i ∧ Hid (Dq w br ab pair (sr : Nat) (l.map Prod.fst) (l.map Prod.snd) st vT vS W) ∧ Hid ((l ++ (readNs (n - i) st).1, (readNs (n - i) st).2) = res) ∧ Hid (∀ x ∈ l, x.1.path.length ≤ 8796093022200 ∧ x.1.data.length ≤ 140737488355328)) (fun t9 _ => n - (intOf t9).toNat)
      case atStart => exact ⟨0, [], s4, _, _, by omega, rfl, rfl, HD9, HRES, Lib.hid (fun x hx => by cases hx)⟩
      case round =>
        clear HRES HD9
        obtain ⟨i, l, st, vT, vS, hi, hl, rfl, HD, HE, HX⟩ := hrel
        have i0 : (0 : Int) ≤ i := by omega
        have hfault : ∃ fv : Nat, fv = st.2 ∧ wr.cell? ⟨br, 2, none⟩ = some (.int .i64 (fv : Nat)) := by
          obtain ⟨S, at', h⟩ := HD.out.rd
          exact ⟨st.2, rfl, cell_of_row wr _ 2 _ _ _ h.row⟩
        obtain ⟨fv, hfv, cf⟩ := hfault
        have HFV := Lib.hid hfv
        clear hfv
        by_cases hlt : i < n
        · have i1 : (i : Int) < n := by omega
          have e1 : IntKind.i64.wrap ((i : Int) + 1) = (i : Int) + 1 := IntWalk.i64_in _ (by omega)
          by_cases hf0 : fv = 0
          · have hff : ((fv : Int) == 0) = true := by rw [beq_iff_eq]; omega
            go_wp2_with (fail)
            clear cf
            obtain ⟨wx, hwx⟩ : ∃ wx, (wr.alloc (.cells #[.string ⟨#[]⟩, .int .i64 0, .string ⟨#[]⟩, .int .i64 0] 41)).alloc (.cells #[.int .i64 0, .int .i64 0, .int .i64 0] 55) = wx := ⟨_, rfl⟩
            have HWX := Lib.hid hwx
            have hbx := (show Below wr.heap.size wr wx by rw [← hwx]; exact ((Below.refl _ _).alloc (Nat.le_refl _) _).alloc (by simp) _)
            have HP0 : Hid (Ph wr br wr.heap.size (wr.heap.size + 1) st #[.string ⟨#[]⟩, .int .i64 0, .string ⟨#[]⟩, .int .i64 0] #[.int .i64 0, .int .i64 0, .int .i64 0] wx) := Lib.hid ⟨HD.out.rd.below hbx, gb_below (gb_refl _ _) hbx, by rw [← hwx, Below.heap_alloc _ _ _ (by simp)]; exact heap_alloc_new _ _, by have h := heap_alloc_new (wr.alloc (.cells #[.string ⟨#[]⟩, .int .i64 0, .string ⟨#[]⟩, .int .i64 0] 41)) (.cells #[.int .i64 0, .int .i64 0, .int .i64 0] 55); rw [← hwx]; simpa using h, Nat.le_refl _, by omega⟩
            have HNB := Lib.hid (show wr.heap.size ≠ br by have := lt_of_heap (HD.out.rd.block).choose_spec; omega)
            clear hwx hbx
            have HLW := Lib.hid (rfl : wr.heap.size = wr.heap.size)
            generalize hnb : wr.heap.size = nb at *
            have HNBW := Lib.hid hnb
            clear hnb
            generalize hmb : nb + 1 = mb at *
            have HMBW := Lib.hid hmb
            clear hmb
            rw [HWX.out]
            have HRN := Lib.hid (show readN st = ((⟨textR 400 st, ((takeR passNum (takeR (passText 400) st).2).1 : Nat), textR 64 (takeR passNum (takeR passNum (takeR (passText 400) st).2).2).2, ((takeR passNum (takeR passNum (takeR (passText 400) st).2).2).1 : Nat)⟩, ⟨((takeR passNum (takeR (passText 64) (takeR passNum (takeR passNum (takeR (passText 400) st).2).2).2).2).1 : Nat), ((takeR passNum (takeR passNum (takeR (passText 64) (takeR passNum (takeR passNum (takeR (passText 400) st).2).2).2).2).2).1 : Nat), ((takeR passNum (takeR passNum (takeR passNum (takeR (passText 64) (takeR passNum (takeR passNum (takeR (passText 400) st).2).2).2).2).2).2).1 : Nat)⟩), (takeR passNum (takeR passNum (takeR passNum (takeR (passText 64) (takeR passNum (takeR passNum (takeR (passText 400) st).2).2).2).2).2).2).2) from rfl)
            refine (RefRText_st br 400 st wx HP0.out.rd).mono ?_
            rintro e wa0 ⟨rfl, hrd, hg⟩
            have HPX := Lib.hid (HP0.out.read hrd hg)
            clear hrd hg
            have HLpt := Lib.hid (show (textR 400 st).length ≤ 8796093022200 from by have := textR_most (most := 400) st (by omega); omega)
            generalize textR 400 st = pt at *
            generalize (takeR (passText 400) st).2 = s1 at *
            have z0 := cell_of_row wa0 _ 0 _ _ _ HPX.out.nd
            have f0 := frozen_of_row wa0 nb 0 _ _ HPX.out.nd
            have HP1 : Hid (Ph wr br nb mb s1 #[.string ⟨pt.toArray⟩, .int .i64 0, .string ⟨#[]⟩, .int .i64 0] #[.int .i64 0, .int .i64 0, .int .i64 0] (wa0.setCell ⟨nb, 0, none⟩ (.string ⟨pt.toArray⟩))) := Lib.hid (HPX.out.setN 0 (.string ⟨pt.toArray⟩))
            go_wp2_with (fail)
            clear z0 f0 HPX HP0
            generalize wa0.setCell ⟨nb, 0, none⟩ (.string ⟨pt.toArray⟩) = wb0 at *
            refine (RefRNum_st br s1 wb0 HP1.out.rd).mono ?_
            rintro e wa1 ⟨rfl, hrd, hg⟩
            have HPX := Lib.hid (HP1.out.read hrd hg)
            clear hrd hg
            generalize (takeR passNum s1).1 = kd at *
            generalize (takeR passNum s1).2 = s2 at *
            have z0 := cell_of_row wa1 _ 1 _ _ _ HPX.out.nd
            have f0 := frozen_of_row wa1 nb 1 _ _ HPX.out.nd
            have HP2 : Hid (Ph wr br nb mb s2 #[.string ⟨pt.toArray⟩, .int .i64 (kd : Nat), .string ⟨#[]⟩, .int .i64 0] #[.int .i64 0, .int .i64 0, .int .i64 0] (wa1.setCell ⟨nb, 1, none⟩ (.int .i64 (kd : Nat)))) := Lib.hid (HPX.out.setN 1 (.int .i64 (kd : Nat)))
            go_wp2_with (fail)
            clear z0 f0 HPX HP1
            generalize wa1.setCell ⟨nb, 1, none⟩ (.int .i64 (kd : Nat)) = wb1 at *
            refine (RefRNum_st br s2 wb1 HP2.out.rd).mono ?_
            rintro e wa2 ⟨rfl, hrd, hg⟩
            have HPX := Lib.hid (HP2.out.read hrd hg)
            clear hrd hg
            generalize (takeR passNum s2).1 = md at *
            generalize (takeR passNum s2).2 = s3 at *
            have z0 := cell_of_row wa2 _ 3 _ _ _ HPX.out.nd
            have f0 := frozen_of_row wa2 nb 3 _ _ HPX.out.nd
            have HP3 : Hid (Ph wr br nb mb s3 #[.string ⟨pt.toArray⟩, .int .i64 (kd : Nat), .string ⟨#[]⟩, .int .i64 (md : Nat)] #[.int .i64 0, .int .i64 0, .int .i64 0] (wa2.setCell ⟨nb, 3, none⟩ (.int .i64 (md : Nat)))) := Lib.hid (HPX.out.setN 3 (.int .i64 (md : Nat)))
            go_wp2_with (fail)
            clear z0 f0 HPX HP2
            generalize wa2.setCell ⟨nb, 3, none⟩ (.int .i64 (md : Nat)) = wb2 at *
            refine (RefRText_st br 64 s3 wb2 HP3.out.rd).mono ?_
            rintro e wa3 ⟨rfl, hrd, hg⟩
            have HPX := Lib.hid (HP3.out.read hrd hg)
            clear hrd hg
            have HLdt := Lib.hid (show (textR 64 s3).length ≤ 140737488355328 from Nat.le_trans (textR_len 64 s3) HP3.out.rd.shortS)
            generalize textR 64 s3 = dt at *
            generalize (takeR (passText 64) s3).2 = s4 at *
            have z0 := cell_of_row wa3 _ 2 _ _ _ HPX.out.nd
            have f0 := frozen_of_row wa3 nb 2 _ _ HPX.out.nd
            have HP4 : Hid (Ph wr br nb mb s4 #[.string ⟨pt.toArray⟩, .int .i64 (kd : Nat), .string ⟨dt.toArray⟩, .int .i64 (md : Nat)] #[.int .i64 0, .int .i64 0, .int .i64 0] (wa3.setCell ⟨nb, 2, none⟩ (.string ⟨dt.toArray⟩))) := Lib.hid (HPX.out.setN 2 (.string ⟨dt.toArray⟩))
            go_wp2_with (fail)
            clear z0 f0 HPX HP3
            generalize wa3.setCell ⟨nb, 2, none⟩ (.string ⟨dt.toArray⟩) = wb3 at *
            refine (RefRNum_st br s4 wb3 HP4.out.rd).mono ?_
            rintro e wa4 ⟨rfl, hrd, hg⟩
            have HPX := Lib.hid (HP4.out.read hrd hg)
            clear hrd hg
            generalize (takeR passNum s4).1 = io at *
            generalize (takeR passNum s4).2 = s5 at *
            have z0 := cell_of_row wa4 _ 0 _ _ _ HPX.out.sp
            have f0 := frozen_of_row wa4 mb 0 _ _ HPX.out.sp
            have HP5 : Hid (Ph wr br nb mb s5 #[.string ⟨pt.toArray⟩, .int .i64 (kd : Nat), .string ⟨dt.toArray⟩, .int .i64 (md : Nat)] #[.int .i64 (io : Nat), .int .i64 0, .int .i64 0] (wa4.setCell ⟨mb, 0, none⟩ (.int .i64 (io : Nat)))) := Lib.hid (HPX.out.setS 0 (.int .i64 (io : Nat)))
            go_wp2_with (fail)
            clear z0 f0 HPX HP4
            generalize wa4.setCell ⟨mb, 0, none⟩ (.int .i64 (io : Nat)) = wb4 at *
            refine (RefRNum_st br s5 wb4 HP5.out.rd).mono ?_
            rintro e wa5 ⟨rfl, hrd, hg⟩
            have HPX := Lib.hid (HP5.out.read hrd hg)
            clear hrd hg
            generalize (takeR passNum s5).1 = sz at *
            generalize (takeR passNum s5).2 = s6 at *
            have z0 := cell_of_row wa5 _ 1 _ _ _ HPX.out.sp
            have f0 := frozen_of_row wa5 mb 1 _ _ HPX.out.sp
            have HP6 : Hid (Ph wr br nb mb s6 #[.string ⟨pt.toArray⟩, .int .i64 (kd : Nat), .string ⟨dt.toArray⟩, .int .i64 (md : Nat)] #[.int .i64 (io : Nat), .int .i64 (sz : Nat), .int .i64 0] (wa5.setCell ⟨mb, 1, none⟩ (.int .i64 (sz : Nat)))) := Lib.hid (HPX.out.setS 1 (.int .i64 (sz : Nat)))
            go_wp2_with (fail)
            clear z0 f0 HPX HP5
            generalize wa5.setCell ⟨mb, 1, none⟩ (.int .i64 (sz : Nat)) = wb5 at *
            refine (RefRNum_st br s6 wb5 HP6.out.rd).mono ?_
            rintro e wa6 ⟨rfl, hrd, hg⟩
            have HPX := Lib.hid (HP6.out.read hrd hg)
            clear hrd hg
            generalize (takeR passNum s6).1 = tm at *
            generalize (takeR passNum s6).2 = s7 at *
            have z0 := cell_of_row wa6 _ 2 _ _ _ HPX.out.sp
            have f0 := frozen_of_row wa6 mb 2 _ _ HPX.out.sp
            have HP7 : Hid (Ph wr br nb mb s7 #[.string ⟨pt.toArray⟩, .int .i64 (kd : Nat), .string ⟨dt.toArray⟩, .int .i64 (md : Nat)] #[.int .i64 (io : Nat), .int .i64 (sz : Nat), .int .i64 (tm : Nat)] (wa6.setCell ⟨mb, 2, none⟩ (.int .i64 (tm : Nat)))) := Lib.hid (HPX.out.setS 2 (.int .i64 (tm : Nat)))
            go_upto_region 23 with (fail)
            clear z0 f0 HPX HP6
            generalize wa6.setCell ⟨mb, 2, none⟩ (.int .i64 (tm : Nat)) = wb6 at *
            have HDE3 := Lib.hid (HD.out.read HP7.out.rd HP7.out.gb)
            have n0 := cell_of_row wb6 _ 0 _ _ _ HP7.out.nd
            have n1 := cell_of_row wb6 _ 1 _ _ _ HP7.out.nd
            have n2 := cell_of_row wb6 _ 2 _ _ _ HP7.out.nd
            have n3 := cell_of_row wb6 _ 3 _ _ _ HP7.out.nd
            have a2 := cell_of_row wb6 _ 2 _ _ _ HDE3.out.arc
            have hlm : (l.map Prod.fst).length = i := by rw [List.length_map]; exact hl
            have hlk : (l.map Prod.snd).length = i := by rw [List.length_map]; exact hl
            go_wp2_with (at_builtin; refine wpList_append_own _ rfl _ _ 23 rfl w.heap.size 41 it0 _ 4 48 Tryz.underlying23 HI.out hz0 hz1 hz2 rfl (by decide) _ _ _ rfl (HDE3.out.nodes.alloc _) ⟨wb6.heap.size, 0, none⟩ 1 1 (ndV ⟨pt, (kd : Nat), dt, (md : Nat)⟩) rfl rfl (laid_rowN wb6 _ _) (ndV_oneCell _) (by rw [hlm]; unfold maxLen; omega) (by rw [hlm]; omega) (by have := HDE3.out.old.size; simp; omega) ?_)
            intro v5 wf hown hgrow _
            obtain ⟨g5, c5, rfl, -, -⟩ := hown.form (by omega)
            have hba := (Below.refl wb6.heap.size wb6).alloc (Nat.le_refl _) (.cells (ndV ⟨pt, (kd : Nat), dt, (md : Nat)⟩).toArray 41)
            have HDF := HDE3.out.below hba
            have hA := HDF.arc_far hgrow
            have HDG := Lib.hid (HDF.node (x := ⟨pt, (kd : Nat), dt, (md : Nat)⟩) (by rw [hlm]; exact hown) hgrow)
            have hsp : wf.heap[mb]? = some (.cells #[.int .i64 (io : Nat), .int .i64 (sz : Nat), .int .i64 (tm : Nat)] 55 (0, 0)) := (hgrow.block mb (Nat.lt_of_lt_of_le (lt_of_heap HP7.out.sp) hba.size) (by intro e; have h1 := (HD.out.nodes.lt mb e.symm).2; have h2 := HNBW.out; have h3 := HMBW.out; omega)).trans ((hba.block mb (lt_of_heap HP7.out.sp)).trans HP7.out.sp)
            have HSP := Lib.hid ((heap_set_ne (v := .slice (some ⟨g5, 0, none⟩) (i + 1) c5) (k := 2) (ne_blocks hsp hA (by decide))).trans hsp)
            have q2 := cell_of_row wf _ 2 _ _ _ hA
            have f2 := frozen_of_row wf ab 2 _ _ hA
            clear hA HDF hown hgrow a2 n0 n1 n2 n3 hba hsp
            go_upto_region 24 with (fail)
            clear q2 f2
            generalize wf.setCell ⟨ab, 2, none⟩ (.slice (some ⟨g5, 0, none⟩) (i + 1) c5) = wg at *
            have m0 := cell_of_row wg _ 0 _ _ _ HSP.out
            have m1 := cell_of_row wg _ 1 _ _ _ HSP.out
            have m2 := cell_of_row wg _ 2 _ _ _ HSP.out
            have a3 := cell_of_row wg _ 3 _ _ _ HDG.out.arc
            go_wp2_with (at_builtin; refine wpList_append_own _ rfl _ _ 24 rfl w.heap.size 55 jt0 _ 3 24 Tryz.underlying24 HJ.out hy0 hy1 hy2 rfl (by decide) _ _ _ rfl (HDG.out.stamps.alloc _) ⟨wg.heap.size, 0, none⟩ 1 1 (stV ⟨(io : Nat), (sz : Nat), (tm : Nat)⟩) rfl rfl (laid_rowN wg _ _) (stV_oneCell _) (by rw [hlk]; unfold maxLen; omega) (by rw [hlk]; omega) (by have := HDG.out.old.size; simp; omega) ?_)
            intro v6 wl hown hgrow _
            obtain ⟨g6, c6, rfl, -, -⟩ := hown.form (by omega)
            have HDF := HDG.out.below ((Below.refl wg.heap.size wg).alloc (Nat.le_refl _) (.cells (stV ⟨(io : Nat), (sz : Nat), (tm : Nat)⟩).toArray 55))
            have hA := HDF.arc_farS hgrow
            have HDM := Lib.hid (HDF.stamp (x := ⟨(io : Nat), (sz : Nat), (tm : Nat)⟩) (by rw [hlk]; exact hown) hgrow)
            have q3 := cell_of_row wl _ 3 _ _ _ hA
            have f3 := frozen_of_row wl ab 3 _ _ hA
            clear hA HDF hown hgrow a3 m0 m1 m2
            obtain ⟨q, hq⟩ : ∃ q, n - i = q + 1 := ⟨n - i - 1, by omega⟩
            have HE2 := HE
            rw [hq, readNs_next, HRN.out] at HE2
            have HE3 : Hid (((l ++ [((⟨pt, (kd : Nat), dt, (md : Nat)⟩ : Nd), (⟨(io : Nat), (sz : Nat), (tm : Nat)⟩ : Stp))]) ++ (readNs (n - (i + 1)) s7).1, (readNs (n - (i + 1)) s7).2) = res) := Lib.hid (by
              rw [show n - (i + 1) = q by omega, List.append_assoc, List.singleton_append]; exact HE2.out)
            have HX2 : Hid (∀ x ∈ l ++ [((⟨pt, (kd : Nat), dt, (md : Nat)⟩ : Nd), (⟨(io : Nat), (sz : Nat), (tm : Nat)⟩ : Stp))], x.1.path.length ≤ 8796093022200 ∧ x.1.data.length ≤ 140737488355328) := Lib.hid (fun x hx => by
              rcases List.mem_append.1 hx with h | h
              · exact HX.out x h
              · rw [List.mem_singleton] at h; subst h; exact ⟨HLpt.out, HLdt.out⟩)
            have HDN : Hid (Dq w br ab pair (sr : Nat) ((l ++ [((⟨pt, (kd : Nat), dt, (md : Nat)⟩ : Nd), (⟨(io : Nat), (sz : Nat), (tm : Nat)⟩ : Stp))]).map Prod.fst) ((l ++ [((⟨pt, (kd : Nat), dt, (md : Nat)⟩ : Nd), (⟨(io : Nat), (sz : Nat), (tm : Nat)⟩ : Stp))]).map Prod.snd) s7 (.slice (some ⟨g5, 0, none⟩) (i + 1) c5) (.slice (some ⟨g6, 0, none⟩) (i + 1) c6) (wl.setCell ⟨ab, 3, none⟩ (.slice (some ⟨g6, 0, none⟩) (i + 1) c6))) := Lib.hid (by rw [List.map_append, List.map_append]; exact HDM.out)
            have hlen : (l ++ [((⟨pt, (kd : Nat), dt, (md : Nat)⟩ : Nd), (⟨(io : Nat), (sz : Nat), (tm : Nat)⟩ : Stp))]).length = i + 1 := by simp [hl]
            clear HE HE2 HRN HX HD HDM HDG HDE3 HP7 HSP
            go_wp2_with (fail)
            go_roundw
            case rel => exact ⟨i + 1, _, s7, _, _, by omega, hlen, by go_num, HDN, HE3, HX2⟩
            case measure => simp [intOf]; omega
          · have hff : ((fv : Int) == 0) = false := by rw [beq_eq_false_iff_ne]; omega
            have HSTK := Lib.hid (show res.2 = st by rw [← HE.out]; exact readNs_stuck (by rw [← HFV.out]; exact hf0) _)
            have HEN := Lib.hid (show endR st ≠ 0 from endR_bad (by rw [← HFV.out]; exact hf0))
            have HOUT := Lib.hid (show out = (zeroA, 90) by rw [HOUT2.out]; unfold doneA; rw [HSTK.out, if_pos (.inl HEN.out)])
            have hen2 : ((endR st : Int) != 0) = true := by rw [bne_iff_ne]; have := HEN.out; omega
            have hen3 : ¬ (endR st : Int) = 0 := by have := HEN.out; omega
            go_wp2_with (fail)
            refine (RefREnd_st br st wr HD.out.rd).mono ?_
            rintro e wy ⟨rfl, hwy⟩
            have HDX := Lib.hid (HD.out.below hwy)
            clear hwy cf
            generalize endR st = en at *
            have q0 := cell_of_row wy _ 0 _ _ _ HDX.out.res
            have q1 := cell_of_row wy _ 1 _ _ _ HDX.out.res
            have q2 := cell_of_row wy _ 2 _ _ _ HDX.out.res
            have q3 := cell_of_row wy _ 3 _ _ _ HDX.out.res
            have f0 := frozen_of_row wy w.heap.size 0 _ _ HDX.out.res
            have f1 := frozen_of_row wy w.heap.size 1 _ _ HDX.out.res
            have f2 := frozen_of_row wy w.heap.size 2 _ _ HDX.out.res
            have f3 := frozen_of_row wy w.heap.size 3 _ _ HDX.out.res
            go_wp2_with (fail)
            refine bodyPost_ret (results_row_tmp Tryz.results9 _ _ w.heap.size 26 _ (0, 0) _ rfl (set_row4 HDX.out.res) Tryz.underlying26 rfl size_arc) rfl ?_
            rw [HOUT.out]
            exact ⟨none, 0, none, 0, rfl, zero_at _, below_row4 HDX.out.old (Nat.le_refl _)⟩
        · obtain rfl : i = n := by omega
          have i1 : decide ((i : Int) < (i : Int)) = false := by rw [decide_eq_false_iff_not]; omega
          clear cf HFV
          obtain ⟨r1, rst⟩ := res
          have hrr : l = r1 ∧ st = rst := by
            have := HE.out
            rw [Nat.sub_self, show readNs 0 st = ([], st) from rfl, List.append_nil] at this
            exact ⟨(Prod.mk.inj this).1, (Prod.mk.inj this).2⟩
          obtain ⟨rfl, rfl⟩ := hrr
          have HOUT3 : Hid (out = doneA (readH p) l st) := HOUT2
          clear HE HOUT2
          have HARC := Lib.hid (show arcOf (readH p) l = ⟨pair, (sr : Nat), l.map Prod.fst, l.map Prod.snd⟩ by rw [HRH.out]; rfl)
          have HLM := Lib.hid (show (l.map Prod.fst).length = i by rw [List.length_map]; exact hl)
          have HLK := Lib.hid (show (l.map Prod.snd).length = i by rw [List.length_map]; exact hl)
          have HTX := Lib.hid (show ∀ n ∈ l.map Prod.fst, n.path.length ≤ 9223372036854775807 ∧ n.data.length ≤ 9223372036854775807 from fun x hx => by
            obtain ⟨y, hy, rfl⟩ := List.mem_map.1 hx
            have := HX.out y hy
            exact ⟨by omega, by omega⟩)
          have HPTH := Lib.hid (show ∀ n ∈ l.map Prod.fst, n.path.length ≤ 8796093022200 from fun x hx => by
            obtain ⟨y, hy, rfl⟩ := List.mem_map.1 hx
            exact HX.out y hy |>.1)
          clear HX
          unfold doneA at HOUT3
          rw [HARC.out] at HOUT3
          generalize l.map Prod.fst = T at *
          generalize l.map Prod.snd = K at *
          obtain ⟨A5, c5, rfl, hc5, -, -⟩ := IsSlice.of_own HD.out.nodes
          obtain ⟨B5, d5, rfl, hd5, -, -⟩ := IsSlice.of_own HD.out.stamps
          have HAT := Lib.hid (show ∀ W, W.ownsRow w.heap.size 41 4 (.slice A5 T.length c5) T.length (rowsE ndV T) → W.ownsRow w.heap.size 55 3 (.slice B5 K.length d5) K.length (rowsE stV K) → ArAt ⟨pair, (sr : Nat), T, K⟩ A5 c5 B5 d5 W from fun W h1 h2 =>
            ⟨own_rowsA ndV_length h1 rfl, own_rowsA stV_length h2 rfl, hc5, hd5, by show T.length ≤ _; have := HLM.out; omega, by show K.length ≤ _; have := HLK.out; omega,
              HTX.out, by show pair.length ≤ _; have := HPL5.out; omega⟩)
          have HPB : Hid (Pth ⟨pair, (sr : Nat), T, K⟩) := Lib.hid HPTH.out
          have HCK := Lib.hid (fun W (h : Below wr.heap.size wr W) => rarchk_any ⟨pair, (sr : Nat), T, K⟩ A5 c5 B5 d5 W (HAT.out W (HD.out.below h).nodes (HD.out.below h).stamps) HPB.out)
          go_wp2_with (fail)
          refine (RefREnd_st br st wr HD.out.rd).mono ?_
          rintro e wx ⟨rfl, hwx⟩
          have HDX := Lib.hid (HD.out.below hwx)
          have HWX := Lib.hid hwx
          clear hwx
          by_cases hen : endR st = 0
          · have hen2 : ((endR st : Int) != 0) = false := by rw [bne_eq_false_iff_eq]; omega
            cases hck : checkA ⟨pair, (sr : Nat), T, K⟩ with
            | true =>
              have HOUT := Lib.hid (show out = (⟨pair, (sr : Nat), T, K⟩, 0) by rw [HOUT3.out, hck, if_neg (by simp [hen])])
              rw [hck] at HCK
              have HC2 : Hid (∀ W, Below wr.heap.size wr W → Calls Tryz.prog 14 #[.agg #[.string ⟨pair.toArray⟩, .int .i64 (sr : Nat), .slice A5 T.length c5, .slice B5 K.length d5]] W (Ret W (.int .i64 0))) := HCK
              clear hck HCK hen
              generalize endR st = en at *
              have a0 := cell_of_row wx _ 0 _ _ _ HDX.out.arc
              have a1 := cell_of_row wx _ 1 _ _ _ HDX.out.arc
              have a2 := cell_of_row wx _ 2 _ _ _ HDX.out.arc
              have a3 := cell_of_row wx _ 3 _ _ _ HDX.out.arc
              go_wp2_with (fail)
              refine (HC2.out _ HWX.out).mono ?_
              rintro e wy ⟨rfl, hwy⟩
              have HDY := Lib.hid (HDX.out.below hwy)
              have HWY := Lib.hid (HWX.out.trans (hwy.mono HWX.out.size))
              clear hwy a0 a1 a2 a3
              have a0 := cell_of_row wy _ 0 _ _ _ HDY.out.arc
              have a1 := cell_of_row wy _ 1 _ _ _ HDY.out.arc
              have a2 := cell_of_row wy _ 2 _ _ _ HDY.out.arc
              have a3 := cell_of_row wy _ 3 _ _ _ HDY.out.arc
              have q0 := cell_of_row wy _ 0 _ _ _ HDY.out.res
              have q1 := cell_of_row wy _ 1 _ _ _ HDY.out.res
              have q2 := cell_of_row wy _ 2 _ _ _ HDY.out.res
              have q3 := cell_of_row wy _ 3 _ _ _ HDY.out.res
              have f0 := frozen_of_row wy w.heap.size 0 _ _ HDY.out.res
              have f1 := frozen_of_row wy w.heap.size 1 _ _ HDY.out.res
              have f2 := frozen_of_row wy w.heap.size 2 _ _ HDY.out.res
              have f3 := frozen_of_row wy w.heap.size 3 _ _ HDY.out.res
              go_wp2_with (fail)
              refine bodyPost_ret (results_row_tmp Tryz.results9 _ _ w.heap.size 26 _ (0, 0) _ rfl (set_row4 HDY.out.res) Tryz.underlying26 rfl size_arc) rfl ?_
              rw [HOUT.out]
              refine ⟨A5, c5, B5, d5, rfl, ?_, below_row4 HDY.out.old (Nat.le_refl _)⟩
              exact HAT.out _ (own_kept_block HDY.out.nodes HDY.out.res gb_row4 (by decide)) (own_kept_block HDY.out.stamps HDY.out.res gb_row4 (by decide))
            | false =>
              have HOUT := Lib.hid (show out = (zeroA, 90) by rw [HOUT3.out, hck, if_pos (.inr rfl)])
              rw [hck] at HCK
              have HC2 : Hid (∀ W, Below wr.heap.size wr W → Calls Tryz.prog 14 #[.agg #[.string ⟨pair.toArray⟩, .int .i64 (sr : Nat), .slice A5 T.length c5, .slice B5 K.length d5]] W (Ret W (.int .i64 90))) := HCK
              clear hck HCK hen
              generalize endR st = en at *
              have a0 := cell_of_row wx _ 0 _ _ _ HDX.out.arc
              have a1 := cell_of_row wx _ 1 _ _ _ HDX.out.arc
              have a2 := cell_of_row wx _ 2 _ _ _ HDX.out.arc
              have a3 := cell_of_row wx _ 3 _ _ _ HDX.out.arc
              go_wp2_with (fail)
              refine (HC2.out _ HWX.out).mono ?_
              rintro e wy ⟨rfl, hwy⟩
              have HDY := Lib.hid (HDX.out.below hwy)
              clear hwy a0 a1 a2 a3
              have q0 := cell_of_row wy _ 0 _ _ _ HDY.out.res
              have q1 := cell_of_row wy _ 1 _ _ _ HDY.out.res
              have q2 := cell_of_row wy _ 2 _ _ _ HDY.out.res
              have q3 := cell_of_row wy _ 3 _ _ _ HDY.out.res
              have f0 := frozen_of_row wy w.heap.size 0 _ _ HDY.out.res
              have f1 := frozen_of_row wy w.heap.size 1 _ _ HDY.out.res
              have f2 := frozen_of_row wy w.heap.size 2 _ _ HDY.out.res
              have f3 := frozen_of_row wy w.heap.size 3 _ _ HDY.out.res
              go_wp2_with (fail)
              refine bodyPost_ret (results_row_tmp Tryz.results9 _ _ w.heap.size 26 _ (0, 0) _ rfl (set_row4 HDY.out.res) Tryz.underlying26 rfl size_arc) rfl ?_
              rw [HOUT.out]
              exact ⟨none, 0, none, 0, rfl, zero_at _, below_row4 HDY.out.old (Nat.le_refl _)⟩
          · have hen2 : ((endR st : Int) != 0) = true := by rw [bne_iff_ne]; omega
            have HOUT := Lib.hid (show out = (zeroA, 90) by rw [HOUT3.out, if_pos (.inl hen)])
            have hen3 : ¬ (endR st : Int) = 0 := by omega
            clear hen
            generalize endR st = en at *
            have q0 := cell_of_row wx _ 0 _ _ _ HDX.out.res
            have q1 := cell_of_row wx _ 1 _ _ _ HDX.out.res
            have q2 := cell_of_row wx _ 2 _ _ _ HDX.out.res
            have q3 := cell_of_row wx _ 3 _ _ _ HDX.out.res
            have f0 := frozen_of_row wx w.heap.size 0 _ _ HDX.out.res
            have f1 := frozen_of_row wx w.heap.size 1 _ _ HDX.out.res
            have f2 := frozen_of_row wx w.heap.size 2 _ _ HDX.out.res
            have f3 := frozen_of_row wx w.heap.size 3 _ _ HDX.out.res
            go_wp2_with (fail)
            refine bodyPost_ret (results_row_tmp Tryz.results9 _ _ w.heap.size 26 _ (0, 0) _ rfl (set_row4 HDX.out.res) Tryz.underlying26 rfl size_arc) rfl ?_
            rw [HOUT.out]
            exact ⟨none, 0, none, 0, rfl, zero_at _, below_row4 HDX.out.old (Nat.le_refl _)⟩
    · have HOUT := Lib.hid (show out = (zeroA, 90) by rw [HDE.out, if_pos (.inr hmg)])
      have hne : (textR 8 (p, 0) == [104, 97, 119, 115, 101, 114, 32, 49]) = false := by rw [beq_eq_false_iff_ne]; exact hmg
      have HTX := Lib.hid htx
      clear htx hmg
      generalize textR 8 (p, 0) = tx at *
      go_wp2_with (fail)
      refine HTX.out.mono ?_
      rintro e w4 ⟨rfl, hrd, hg⟩
      have HD4 := Lib.hid (HD3.out.read hrd hg)
      clear hrd hg
      have q0 := cell_of_row w4 _ 0 _ _ _ HD4.out.res
      have q1 := cell_of_row w4 _ 1 _ _ _ HD4.out.res
      have q2 := cell_of_row w4 _ 2 _ _ _ HD4.out.res
      have q3 := cell_of_row w4 _ 3 _ _ _ HD4.out.res
      have f0 := frozen_of_row w4 w.heap.size 0 _ _ HD4.out.res
      have f1 := frozen_of_row w4 w.heap.size 1 _ _ HD4.out.res
      have f2 := frozen_of_row w4 w.heap.size 2 _ _ HD4.out.res
      have f3 := frozen_of_row w4 w.heap.size 3 _ _ HD4.out.res
      go_wp2_with (fail)
      refine bodyPost_ret (results_row_tmp Tryz.results9 _ _ w.heap.size 26 _ (0, 0) _ rfl (set_row4 HD4.out.res) Tryz.underlying26 rfl size_arc) rfl ?_
      rw [HOUT.out]
      exact ⟨none, 0, none, 0, rfl, zero_at _, below_row4 HD4.out.old (Nat.le_refl _)⟩
  · have hec2 : ((ec : Int) != 0) = true := by rw [bne_iff_ne]; omega
    have HOUT := Lib.hid (show out = (zeroA, 90) by rw [HDE.out, if_pos (.inl hec)])
    have hec3 : ¬ (ec : Int) = 0 := by omega
    clear hec
    have q0 := cell_of_row w2 _ 0 _ _ _ HR2.out
    have q1 := cell_of_row w2 _ 1 _ _ _ HR2.out
    have q2 := cell_of_row w2 _ 2 _ _ _ HR2.out
    have q3 := cell_of_row w2 _ 3 _ _ _ HR2.out
    have f0 := frozen_of_row w2 w.heap.size 0 _ _ HR2.out
    have f1 := frozen_of_row w2 w.heap.size 1 _ _ HR2.out
    have f2 := frozen_of_row w2 w.heap.size 2 _ _ HR2.out
    have f3 := frozen_of_row w2 w.heap.size 3 _ _ HR2.out
    go_wp2_with (fail)
    refine bodyPost_ret (results_row_tmp Tryz.results9 _ _ w.heap.size 26 _ (0, 0) _ rfl (set_row4 HR2.out) Tryz.underlying26 rfl size_arc) rfl ?_
    rw [HOUT.out]
    exact ⟨none, 0, none, 0, rfl, zero_at _, below_row4 HB2.out (Nat.le_refl _)⟩
end Go.Proofs.YtjajoiahgfafgaaGreatDoor
end

/- Opening of arguments: a slice of structs that is a cell of an argument; a struct of one-cell fields. -/
section
namespace Go.Proofs.YtjajoiahgfafgaaGreatDoor
open Go.ChangeShapes Go.WideShapes Go.ChangeAt Go.RowKit Go.Deep

section
variable {H : Type} {enc : TypeId × Value → H} {P : Program} {w : World} {base : Nat} {held : Bool}
theorem open_rowsT {α : Type} [Inhabited α] (El : List Value → α → Prop) (wt : α → Nat) {t e : TypeId} {fs : Array Field} {v : Value} {d : DataW H} {ps : List MemPlace} (ht : P.underlying t = some (.slice e)) (he : P.underlying e = some (.struct fs))
    (hone : oneCellFields P fs = true) (hC : P.cellsOf e = fs.size)
    (hel : ∀ (vs : List Value) (ys : List (DataW H × List MemPlace)) n, vs.length = fs.size → ys.length = fs.size → (∀ (j : Nat) (f : Field), fs[j]? = some f → ∃ v y, vs[j]? = some v ∧ ys[j]? = some y ∧ DataW.trod enc P w base (fun _ => true) held n f.type [v] = some y) →
      ∃ x, El vs x ∧ wt x ≤ Rows.uptoBulk (DataW.agg (ys.map (·.1))))
    (hd : ∃ fuel, DataW.trod enc P w base (fun _ => true) held fuel t [v] = some (d, ps)) :
    ∃ A c, ∃ (l : List α) (V : List (List Value)), v = .slice A l.length c ∧ l.length ≤ c ∧ c ≤ maxLen ∧ V.length = l.length ∧ IsRows w fs.size A V ∧ (∀ k (h : k < l.length) (h' : k < V.length), El V[k] l[k]) ∧ (l.map wt).sum ≤ Rows.uptoBulk d := by
  obtain ⟨fuel, hf⟩ := hd
  rcases open_slice ht hf with ⟨hcs, hx⟩ | ⟨a, len, cap, m, n, D, Pl, hcs, _, hl, hm, hmm, hx, hcell⟩
  · simp only [List.cons.injEq, and_true] at hcs
    subst hcs
    simp only [Prod.mk.injEq] at hx
    exact ⟨none, 0, [], [], rfl, Nat.le_refl _, Nat.zero_le _, rfl, fun k h => absurd h (by simp), by simp, by simp⟩
  · simp only [List.cons.injEq, and_true] at hcs
    subst hcs
    simp only [if_true] at hmm
    subst hmm
    simp only [Prod.mk.injEq] at hx
    obtain ⟨X, hX⟩ := choose_lt (α := List Value × α) (p := fun i x => x.1.length = fs.size ∧ (∀ j u, x.1[j]? = some u → w.cell? (a.add (i * fs.size + j)) = some u) ∧ El x.1 x.2 ∧ wt x.2 ≤ Rows.uptoBulk (D i)) (n := len) (fun i hi => by
      obtain ⟨cs', hc, ht'⟩ := hcell i (by omega)
      rw [hC] at hc
      obtain ⟨ys, n', hn', hy, hlen, hyl, hf⟩ := DataW.trod_struct he ht'
      obtain ⟨_, hcl, hat⟩ := World.cells?_some hc
      simp only [Prod.mk.injEq] at hy
      obtain ⟨x, hx1, hx2⟩ := hel cs' ys n' hcl hyl (fun j f hj => by
        obtain ⟨ho, hk⟩ := hone_of hone j f hj
        have hjl : j < fs.size := (Array.getElem?_eq_some_iff.1 hj).1
        have hv : cs'[j]? = some (cs'[j]'(by omega)) := List.getElem?_eq_getElem (by omega)
        have h1 := hf j f hj
        rw [ho, hk] at h1
        have hone' : (cs'.drop j).take 1 = [cs'[j]'(by omega)] := by
          rw [List.drop_eq_getElem_cons (by omega)]
          rfl
        rw [hone'] at h1
        have hys : ys[j]? = some (ys[j]'(by omega)) := List.getElem?_eq_getElem (by omega)
        exact ⟨_, _, hv, hys, h1.trans hys⟩)
      refine ⟨(cs', x), hcl, fun j u hu => ?_, hx1, ?_⟩
      · have hj : j < fs.size := by
          have h1 : j < cs'.length := (List.getElem?_eq_some_iff.1 hu).1
          omega
        rw [← Go.Deep.add_add, hat j hj]
        exact hu
      · rw [hy.1]; exact hx2)
    refine ⟨some a, m, (List.range len).map (fun i => (X i).2), (List.range len).map (fun i => (X i).1), by simp, by simpa using hl, hm, by simp, ?_, ?_, ?_⟩
    · intro k h
      have hk : k < len := by simpa using h
      refine ⟨a, rfl, fun j u hu => (hX k hk).2.1 j u ?_⟩
      simpa using hu
    · intro k h h'
      have hk : k < len := by simpa using h
      simpa using (hX k hk).2.2.1
    · rw [hx.1, Rows.uptoBulk, List.map_map]
      have := bulkAll_range len D (fun i => wt (X i).2) (fun i hi => (hX i hi).2.2.2)
      have e : ((List.range len).map (wt ∘ fun i => (X i).2)).sum = ((List.range len).map (fun i => wt (X i).2)).sum := rfl
      omega
/-- A struct of one-cell fields among the arguments: its cells with their readings. -/
theorem open_aggN {r : Reach} {b0 : Nat} {t : TypeId} {fs : Array Field} {v : Value} {d : DataW H} {p : List MemPlace} (hs : P.underlying t = some (.struct fs)) (hone : oneCellFields P fs = true) (hC : P.cellsOf t = fs.size)
    (hv : Value.okWide P w r b0 t v) (h : DataW.Trod enc P w base (fun _ => true) held t v d p) :
    ∃ (vs : List Value) (ys : List (DataW H × List MemPlace)) (n : Nat), v = .agg vs.toArray ∧ vs.length = fs.size ∧ ys.length = fs.size ∧ d = .agg (ys.map (·.1)) ∧
      ∀ (j : Nat) (f : Field), fs[j]? = some f → ∃ v y, vs[j]? = some v ∧ ys[j]? = some y ∧ DataW.trod enc P w base (fun _ => true) held n f.type [v] = some y := by
  obtain ⟨cs, rfl, hsz⟩ := okWide_struct hs hv
  obtain ⟨fuel, hf⟩ := h
  obtain ⟨ys, n', hn', hy, hlen, hyl, hf⟩ := DataW.trod_struct hs hf
  simp only [Prod.mk.injEq] at hy
  have hcs : (Value.agg cs).cells.toList.length = fs.size := by rw [hlen, hC]
  have hcc : (Value.agg cs).cells.toList = cs.toList := by simp [Value.cells]
  refine ⟨cs.toList, ys, n', by simp, by rw [← hcc]; exact hcs, hyl, hy.1, fun j f hj => ?_⟩
  obtain ⟨ho, hk⟩ := hone_of hone j f hj
  have hjl : j < fs.size := (Array.getElem?_eq_some_iff.1 hj).1
  have hl : cs.toList.length = fs.size := by rw [← hcc]; exact hcs
  have h1 := hf j f hj
  rw [ho, hk, hcc] at h1
  have hone' : (cs.toList.drop j).take 1 = [cs.toList[j]'(by omega)] := by
    rw [List.drop_eq_getElem_cons (by omega)]
    rfl
  rw [hone'] at h1
  have hys : ys[j]? = some (ys[j]'(by omega)) := List.getElem?_eq_getElem (by omega)
  exact ⟨_, _, List.getElem?_eq_getElem (by omega), hys, h1.trans hys⟩
end
end Go.Proofs.YtjajoiahgfafgaaGreatDoor
end

/- A cell that reads at a string's type. -/
section
namespace Go.Proofs.YtjajoiahgfafgaaGreatDoor

section
variable {H : Type} {enc : TypeId × Value → H} {P : Program} {w : World} {base : Nat} {spare : Nat → Bool} {held : Bool} {t : TypeId}
/-- A cell that reads at a string's type. -/
theorem trod_str {fuel : Nat} {c : Value} {y : DataW H × List MemPlace} (ht : P.underlying t = some .string) (h : DataW.trod enc P w base spare held fuel t [c] = some y) :
    ∃ s : List UInt8, c = .string ⟨s.toArray⟩ ∧ y = (.lit (.string s), []) ∧ s.length ≤ maxLen := by
  obtain ⟨b, hb, rfl, hl⟩ := DataW.trod_string ht h
  simp only [List.cons.injEq, and_true] at hb
  subst hb
  exact ⟨b.data.toList, by cases b; simp, rfl, by simpa only [ByteArray.size, Array.length_toList] using hl⟩
end
end Go.Proofs.YtjajoiahgfafgaaGreatDoor
end

/- The frame of a card: a world that holds the listed tables; no parameter wants a stand-in. -/
section
namespace Go.Proofs.YtjajoiahgfafgaaGreatDoor
open Go.ChangeShapes Go.WideShapes Go.ChangeAt Go.RowKit

/-- A table's cells, off its datum. -/
def lits0 : DataW Unit → List Value
  | .lit (.int k n) => [.int k n]
  | _ => []
def lits1 : DataW Unit → List Value
  | .agg ps => ps.flatMap lits0
  | d => lits0 d
def lits2 : DataW Unit → List Value
  | .agg ps => ps.flatMap lits1
  | d => lits1 d
def layAt (h : Array Obj) (g : Nat) (d : DataW Unit) : Array Obj := h.modify g fun
  | .cells _ t frozen => .cells (lits2 d).toArray t frozen
  | o => o
/-- The settled world, the tables laid. -/
noncomputable def laidWorld (os : Os) : World :=
  { World.holding Tryz.prog os ⟨#[], #[], []⟩ with heap := layAt (layAt (World.holding Tryz.prog os ⟨#[], #[], []⟩).heap 2 Rows.laid_unicode_utf8_acceptRanges) 1 Rows.laid_unicode_utf8_first }

theorem card_plain {b : Bool} {name : String} {f0 : FuncId} {fn0 : Func} (hf0 : Tryz.pinned.checked.prog.funcNamed name = some f0) (hfn0 : Tryz.pinned.checked.prog.funcs[f0]? = some fn0) (hl : Tryz.pinned.checked.prog.looks [] = b)
    (ha : (fn0.params.toList.all fun t => !Tryz.pinned.checked.prog.wantsStandIn t) = true) (f : FuncId) (fn : Func) (hf : Tryz.pinned.checked.prog.funcNamed name = some f) (hfn : Tryz.pinned.checked.prog.funcs[f]? = some fn) :
    b = Tryz.pinned.checked.prog.looks [] ∧ ∀ (j : Nat) t, fn.params[j]? = some t → Tryz.pinned.checked.prog.wantsStandIn t = false := by
  obtain rfl : f0 = f := Option.some.inj (hf0.symm.trans hf)
  obtain rfl : fn0 = fn := Option.some.inj (hfn0.symm.trans hfn)
  refine ⟨hl.symm, fun j t ht => ?_⟩
  have hm : t ∈ fn0.params.toList := by
    rw [← Array.getElem?_toList] at ht
    exact List.mem_of_getElem? ht
  have := List.all_eq_true.1 ha t hm
  simpa using this

end Go.Proofs.YtjajoiahgfafgaaGreatDoor
end

/- Opening of arguments: nodes, stamps, an archive. -/
section
namespace Go.Proofs.YtjajoiahgfafgaaGreatDoor
open Go.ChangeShapes Go.WideShapes Go.ChangeAt Go.RowKit Go.Deep Plain

def OkI (n : Int) : Prop := -9223372036854775808 ≤ n ∧ n ≤ 9223372036854775807
section
variable {H : Type} {enc : TypeId × Value → H} {w : World} {base : Nat} {held : Bool}
set_option maxRecDepth 100000 in
theorem open_nodes {v : Value} {d : DataW H} {ps : List MemPlace} (hd : ∃ fuel, DataW.trod enc Tryz.prog w base (fun _ => true) held fuel 23 [v] = some (d, ps)) :
    ∃ A c, ∃ l : List Nd, v = .slice A l.length c ∧ l.length ≤ c ∧ c ≤ maxLen ∧ IsRows w 4 A (l.map ndV) ∧ (∀ o ∈ l, (OkI o.kind ∧ OkI o.mode) ∧ o.path.length ≤ 9223372036854775807 ∧ o.data.length ≤ 9223372036854775807) ∧ (l.map fun o => o.path.length + o.data.length + 1).sum ≤ Rows.uptoBulk d := by
  obtain ⟨A, c, l, V, h1, h2, h3, h4, h5, h6, h7⟩ := open_rowsT (α := Nd) (fun vs x => vs = ndV x ∧ (OkI x.kind ∧ OkI x.mode) ∧ x.path.length ≤ 9223372036854775807 ∧ x.data.length ≤ 9223372036854775807) (fun x => x.path.length + x.data.length + 1) Tryz.underlying23 Tryz.underlying41 (by kernel_rfl) (by kernel_rfl) (fun vs ys n hv hy hf => by
    obtain ⟨v0, y0, a0, c0, t0⟩ := hf 0 _ rfl
    obtain ⟨v1, y1, a1, c1, t1⟩ := hf 1 _ rfl
    obtain ⟨v2, y2, a2, c2, t2⟩ := hf 2 _ rfl
    obtain ⟨v3, y3, a3, c3, t3⟩ := hf 3 _ rfl
    obtain ⟨m0, e0, f0, l0⟩ := trod_str Tryz.underlying9 t0
    obtain ⟨m1, e1, f1, k1⟩ := DataW.trod_int Tryz.underlying3 t1
    obtain ⟨m2, e2, f2, l2⟩ := trod_str Tryz.underlying9 t2
    obtain ⟨m3, e3, f3, k3⟩ := DataW.trod_int Tryz.underlying3 t3
    simp only [List.cons.injEq, and_true] at e1 e3
    subst e0 e1 e2 e3 f0 f2
    have l1 := bounds_i64 k1
    have l3 := bounds_i64 k3
    refine ⟨⟨m0, m1, m2, m3⟩, ⟨?_, ⟨l1, l3⟩, l0, l2⟩, ?_⟩
    · match vs, hv with
      | [b0, b1, b2, b3], _ =>
        simp at a0 a1 a2 a3
        rw [a0, a1, a2, a3]; rfl
    · match ys, hy with
      | [z0, z1, z2, z3], _ =>
        simp at c0 c2
        subst c0 c2
        simp only [List.map_cons, List.map_nil, Rows.uptoBulk, Rows.uptoBulkAll]
        omega) hd
  have hV : V = l.map ndV := List.ext_getElem (by rw [h4, List.length_map]) (fun k h h' => by rw [(h6 k (by simpa using h') h).1]; simp)
  subst hV
  refine ⟨A, c, l, h1, h2, h3, h5, fun o ho => ?_, h7⟩
  obtain ⟨k, hk, rfl⟩ := List.getElem_of_mem ho
  exact (h6 k hk (by simpa using hk)).2
set_option maxRecDepth 100000 in
theorem open_nodesW {r : Reach} {b0 : Nat} {v : Value} {d : DataW H} {ps : List MemPlace} (hval : Value.okWide Tryz.prog w r b0 23 v) (hd : DataW.Trod enc Tryz.prog w base (fun _ => true) held 23 v d ps) :
    ∃ A c, ∃ l : List Nd, v = .slice A l.length c ∧ l.length ≤ c ∧ c ≤ maxLen ∧ IsRows w 4 A (l.map ndV) ∧ (∀ o ∈ l, (OkI o.kind ∧ OkI o.mode) ∧ o.path.length ≤ 9223372036854775807 ∧ o.data.length ≤ 9223372036854775807) ∧ (l.map fun o => o.path.length + o.data.length + 1).sum ≤ Rows.uptoBulk d := by
  obtain ⟨a0, len, cap, rfl⟩ := okWide_slice Tryz.underlying23 hval
  obtain ⟨fuel, hf⟩ := hd
  exact open_nodes ⟨fuel, by simpa [Value.cells] using hf⟩
set_option maxRecDepth 100000 in
theorem open_stamps {v : Value} {d : DataW H} {ps : List MemPlace} (hd : ∃ fuel, DataW.trod enc Tryz.prog w base (fun _ => true) held fuel 24 [v] = some (d, ps)) :
    ∃ A c, ∃ l : List Stp, v = .slice A l.length c ∧ l.length ≤ c ∧ c ≤ maxLen ∧ IsRows w 3 A (l.map stV) ∧ (∀ o ∈ l, OkI o.ino ∧ OkI o.size ∧ OkI o.time) ∧ (l.map fun _ => 1).sum ≤ Rows.uptoBulk d := by
  obtain ⟨A, c, l, V, h1, h2, h3, h4, h5, h6, h7⟩ := open_rowsT (α := Stp) (fun vs x => vs = stV x ∧ OkI x.ino ∧ OkI x.size ∧ OkI x.time) (fun x => 1) Tryz.underlying24 Tryz.underlying55 (by kernel_rfl) (by kernel_rfl) (fun vs ys n hv hy hf => by
    obtain ⟨v0, y0, a0, c0, t0⟩ := hf 0 _ rfl
    obtain ⟨v1, y1, a1, c1, t1⟩ := hf 1 _ rfl
    obtain ⟨v2, y2, a2, c2, t2⟩ := hf 2 _ rfl
    obtain ⟨m0, e0, f0, k0⟩ := DataW.trod_int Tryz.underlying3 t0
    obtain ⟨m1, e1, f1, k1⟩ := DataW.trod_int Tryz.underlying3 t1
    obtain ⟨m2, e2, f2, k2⟩ := DataW.trod_int Tryz.underlying3 t2
    simp only [List.cons.injEq, and_true] at e0 e1 e2
    subst e0 e1 e2
    have l0 := bounds_i64 k0
    have l1 := bounds_i64 k1
    have l2 := bounds_i64 k2
    refine ⟨⟨m0, m1, m2⟩, ⟨?_, l0, l1, l2⟩, ?_⟩
    · match vs, hv with
      | [b0, b1, b2], _ =>
        simp at a0 a1 a2
        rw [a0, a1, a2]; rfl
    · match ys, hy with
      | [z0, z1, z2], _ =>
        simp only [List.map_cons, List.map_nil, Rows.uptoBulk, Rows.uptoBulkAll]
        omega) hd
  have hV : V = l.map stV := List.ext_getElem (by rw [h4, List.length_map]) (fun k h h' => by rw [(h6 k (by simpa using h') h).1]; simp)
  subst hV
  refine ⟨A, c, l, h1, h2, h3, h5, fun o ho => ?_, h7⟩
  obtain ⟨k, hk, rfl⟩ := List.getElem_of_mem ho
  exact (h6 k hk (by simpa using hk)).2
set_option maxRecDepth 100000 in
theorem open_arc {r : Reach} {b0 : Nat} {v : Value} {d : DataW H} {ps : List MemPlace} (hval : Value.okWide Tryz.prog w r b0 26 v) (hd : DataW.Trod enc Tryz.prog w base (fun _ => true) held 26 v d ps) :
    ∃ a A c B e, v = .agg (arV a A c B e).toArray ∧ ArAt a A c B e w ∧ Small a ∧ a.pair.length + (a.tree.map fun o => o.path.length + o.data.length + 1).sum ≤ Rows.uptoBulk d := by
  obtain ⟨vs, ys, n, rfl, hv, hy, rfl, hf⟩ := open_aggN Tryz.underlying26 (by kernel_rfl) (by kernel_rfl) hval hd
  obtain ⟨v0, y0, a0, b0, t0⟩ := hf 0 _ rfl
  obtain ⟨v1, y1, a1, b1, t1⟩ := hf 1 _ rfl
  obtain ⟨v2, y2, a2, b2, t2⟩ := hf 2 _ rfl
  obtain ⟨v3, y3, a3, b3, t3⟩ := hf 3 _ rfl
  obtain ⟨m0, e0, f0, l0⟩ := trod_str Tryz.underlying9 t0
  obtain ⟨m1, e1, f1, k1⟩ := DataW.trod_int Tryz.underlying3 t1
  obtain ⟨A, c, t, e2, hc, hm, hr, hk, hw⟩ := open_nodes (d := y2.1) (ps := y2.2) ⟨n, t2⟩
  obtain ⟨B, dd, s, e3, hc3, hm3, hr3, hk3, hw3⟩ := open_stamps (d := y3.1) (ps := y3.2) ⟨n, t3⟩
  simp only [List.cons.injEq, and_true] at e1
  have l1 := bounds_i64 k1
  subst e0 e1 e2 e3
  unfold maxLen at hm hm3
  refine ⟨⟨m0, m1, t, s⟩, A, c, B, dd, ?_, ⟨hr, hr3, hc, hc3, Nat.le_trans hc hm, Nat.le_trans hc3 hm3, fun n hn => (hk n hn).2, l0⟩, ⟨by show m1 < _; omega, fun x hx => ?_⟩, ?_⟩
  · match vs, hv with
    | [q0, q1, q2, q3], _ =>
      simp at a0 a1 a2 a3
      rw [a0, a1, a2, a3]; rfl
  · have := hk3 x hx
    unfold OkI at this
    omega
  · match ys, hy with
    | [z0, z1, z2, z3], _ =>
      simp at b0 b2
      subst b0 b2
      subst f0
      simp only [List.map_cons, List.map_nil, Rows.uptoBulk, Rows.uptoBulkAll]
      omega
end
end Go.Proofs.YtjajoiahgfafgaaGreatDoor
end
