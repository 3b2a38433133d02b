/- Texts joined: ProfR5. -/
import Derived.Test.YtoifnnhbejofjaaDoorBProfBaseB4
set_option linter.unusedSimpArgs false
set_option linter.unusedVariables false

/- The document's reading of a text, line by line. -/
section
set_option linter.unusedVariables false
namespace Go.Proofs.YtoifnnhbejofjaaDoor
open Go.RowKit Plain

/-- Three blocks that are new: a profile's, and the two results'. -/
structure Rx (w : World) (vi vb vm : Value) (p : PF) (W : World) : Prop where
  head : W.heap[w.heap.size]? = some (.cells #[vi, vb, vm, .int .i64 p.pre, .int .i64 p.frc, .bool p.bat, .bool p.fst] 27 (0, 0))
  res : W.heap[w.heap.size + 1]? = some (.cells #[.slice none 0 0, .slice none 0 0, .slice none 0 0, .int .i64 0, .int .i64 0, .bool false, .bool false] 27 (0, 0))
  txt : W.heap[w.heap.size + 1 + 1]? = some (.cells #[.string ⟨#[]⟩, .string ⟨#[]⟩] 29 (0, 0))
  below : Below w.heap.size w W
  size : w.heap.size + 3 ≤ W.heap.size
section
variable {w W W' : World} {vi vb vm : Value} {p : PF}
theorem Rx.on (h : Rx w vi vb vm p W) (hb : Below W.heap.size W W') : Rx w vi vb vm p W' :=
  ⟨(hb.block _ (by have := h.size; omega)).trans h.head, (hb.block _ (by have := h.size; omega)).trans h.res, (hb.block _ (by have := h.size; omega)).trans h.txt, h.below.trans (hb.mono h.below.size), Nat.le_trans h.size hb.size⟩
theorem Rx.on2 {B : Nat} (h : Rx w vi vb vm p W) (hb : Below B W W') (hB : w.heap.size + 3 ≤ B) : Rx w vi vb vm p W' :=
  ⟨(hb.block _ (by omega)).trans h.head, (hb.block _ (by omega)).trans h.res, (hb.block _ (by omega)).trans h.txt, h.below.trans (hb.mono (by omega)), Nat.le_trans h.size hb.size⟩
theorem Rx.cells (h : Rx w vi vb vm p W) : W.cell? ⟨w.heap.size, 0, none⟩ = some vi ∧ W.cell? ⟨w.heap.size, 1, none⟩ = some vb ∧ W.cell? ⟨w.heap.size, 2, none⟩ = some vm ∧ W.cell? ⟨w.heap.size, 3, none⟩ = some (.int .i64 p.pre) ∧ W.cell? ⟨w.heap.size, 4, none⟩ = some (.int .i64 p.frc) ∧ W.cell? ⟨w.heap.size, 5, none⟩ = some (.bool p.bat) ∧ W.cell? ⟨w.heap.size, 6, none⟩ = some (.bool p.fst) :=
  ⟨cell_of_row _ _ 0 _ _ _ h.head, cell_of_row _ _ 1 _ _ _ h.head, cell_of_row _ _ 2 _ _ _ h.head, cell_of_row _ _ 3 _ _ _ h.head, cell_of_row _ _ 4 _ _ _ h.head, cell_of_row _ _ 5 _ _ _ h.head, cell_of_row _ _ 6 _ _ _ h.head⟩
theorem Rx.soft (h : Rx w vi vb vm p W) (i : Nat) : W.frozen? ⟨w.heap.size, i, none⟩ = false := frozen_of_row _ _ i _ _ h.head
theorem Rx.rcells (h : Rx w vi vb vm p W) : W.cell? ⟨w.heap.size + 1, 0, none⟩ = some (.slice none 0 0) ∧ W.cell? ⟨w.heap.size + 1, 1, none⟩ = some (.slice none 0 0) ∧ W.cell? ⟨w.heap.size + 1, 2, none⟩ = some (.slice none 0 0) ∧ W.cell? ⟨w.heap.size + 1, 3, none⟩ = some (.int .i64 0) ∧ W.cell? ⟨w.heap.size + 1, 4, none⟩ = some (.int .i64 0) ∧ W.cell? ⟨w.heap.size + 1, 5, none⟩ = some (.bool false) ∧ W.cell? ⟨w.heap.size + 1, 6, none⟩ = some (.bool false) ∧
    W.cell? ⟨w.heap.size + 1 + 1, 0, none⟩ = some (.string ⟨#[]⟩) ∧ W.cell? ⟨w.heap.size + 1 + 1, 1, none⟩ = some (.string ⟨#[]⟩) :=
  ⟨cell_of_row _ _ 0 _ _ _ h.res, cell_of_row _ _ 1 _ _ _ h.res, cell_of_row _ _ 2 _ _ _ h.res, cell_of_row _ _ 3 _ _ _ h.res, cell_of_row _ _ 4 _ _ _ h.res, cell_of_row _ _ 5 _ _ _ h.res, cell_of_row _ _ 6 _ _ _ h.res, cell_of_row _ _ 0 _ _ _ h.txt, cell_of_row _ _ 1 _ _ _ h.txt⟩
theorem Rx.rsoft (h : Rx w vi vb vm p W) (i : Nat) : W.frozen? ⟨w.heap.size + 1, i, none⟩ = false ∧ W.frozen? ⟨w.heap.size + 1 + 1, i, none⟩ = false := ⟨frozen_of_row _ _ i _ _ h.res, frozen_of_row _ _ i _ _ h.txt⟩
/-- The results' blocks filled. -/
def fillT (w W : World) (vi vb vm : Value) (p : PF) (a b : List UInt8) : World :=
  ((((((((W.setCell ⟨w.heap.size + 1, 0, none⟩ vi).setCell ⟨w.heap.size + 1, 1, none⟩ vb).setCell ⟨w.heap.size + 1, 2, none⟩ vm).setCell ⟨w.heap.size + 1, 3, none⟩ (.int .i64 p.pre)).setCell ⟨w.heap.size + 1, 4, none⟩ (.int .i64 p.frc)).setCell ⟨w.heap.size + 1, 5, none⟩ (.bool p.bat)).setCell ⟨w.heap.size + 1, 6, none⟩ (.bool p.fst)).setCell ⟨w.heap.size + 1 + 1, 0, none⟩ (.string ⟨a.toArray⟩)).setCell ⟨w.heap.size + 1 + 1, 1, none⟩ (.string ⟨b.toArray⟩)
theorem Rx.fill (h : Rx w vi vb vm p W) (a b : List UInt8) : (fillT w W vi vb vm p a b).heap[w.heap.size + 1]? = some (.cells #[vi, vb, vm, .int .i64 p.pre, .int .i64 p.frc, .bool p.bat, .bool p.fst] 27 (0, 0)) ∧ (fillT w W vi vb vm p a b).heap[w.heap.size + 1 + 1]? = some (.cells #[.string ⟨a.toArray⟩, .string ⟨b.toArray⟩] 29 (0, 0)) ∧ Below w.heap.size w (fillT w W vi vb vm p a b) ∧ Only (fun k => k = w.heap.size + 1 ∨ k = w.heap.size + 1 + 1) W (fillT w W vi vb vm p a b) :=
  ⟨(row2_ne (by omega)).trans (set_row7 h.res), set_row2 ((row7_ne (by omega)).trans h.txt), below_row2 (below_row7 h.below (by omega)) (by omega), only_row2 (only_row7 (Only.refl _ _) (.inl rfl)) (.inr rfl)⟩
theorem Rx.tags (h : Rx w vi vb vm p W) : ∀ k, (k = w.heap.size + 1 ∨ k = w.heap.size + 1 + 1) → ∃ C t fr, W.heap[k]? = some (.cells C t fr) ∧ t ≠ 67 ∧ t ≠ 54 := by
  rintro k (rfl | rfl)
  · exact ⟨_, _, _, h.res, by decide, by decide⟩
  · exact ⟨_, _, _, h.txt, by decide, by decide⟩
/-- The profile's block filled anew. -/
def fillP (w W : World) (vi vb vm : Value) (p : PF) : World :=
  ((((((W.setCell ⟨w.heap.size, 0, none⟩ vi).setCell ⟨w.heap.size, 1, none⟩ vb).setCell ⟨w.heap.size, 2, none⟩ vm).setCell ⟨w.heap.size, 3, none⟩ (.int .i64 p.pre)).setCell ⟨w.heap.size, 4, none⟩ (.int .i64 p.frc)).setCell ⟨w.heap.size, 5, none⟩ (.bool p.bat)).setCell ⟨w.heap.size, 6, none⟩ (.bool p.fst)
theorem Rx.fillp {vi' vb' vm' : Value} {p' : PF} (h : Rx w vi vb vm p W) : Rx w vi' vb' vm' p' (fillP w W vi' vb' vm' p') ∧ Only (fun k => k = w.heap.size) W (fillP w W vi' vb' vm' p') :=
  ⟨⟨set_row7 h.head, (row7_ne (by omega)).trans h.res, (row7_ne (by omega)).trans h.txt, below_row7 h.below (Nat.le_refl _), by simpa [fillP, World.setCell] using h.size⟩, only_row7 (Only.refl _ _) rfl⟩
theorem Rx.tagp (h : Rx w vi vb vm p W) : ∀ k, k = w.heap.size → ∃ C t fr, W.heap[k]? = some (.cells C t fr) ∧ t ≠ 67 ∧ t ≠ 54 := by
  rintro k rfl
  exact ⟨_, _, _, h.head, by decide, by decide⟩
theorem rx_start (p : PF) (vi vb vm : Value) (w : World) : Rx w vi vb vm p (((w.alloc (.cells #[vi, vb, vm, .int .i64 p.pre, .int .i64 p.frc, .bool p.bat, .bool p.fst] 27)).alloc (.cells #[.slice none 0 0, .slice none 0 0, .slice none 0 0, .int .i64 0, .int .i64 0, .bool false, .bool false] 27)).alloc (.cells #[.string ⟨#[]⟩, .string ⟨#[]⟩] 29)) := by
  refine ⟨?_, ?_, ?_, ?_, ?_⟩
  · rw [Below.heap_alloc _ _ _ (by simp; omega), Below.heap_alloc _ _ _ (by simp)]; exact heap_alloc_new _ _
  · rw [Below.heap_alloc _ _ _ (by simp)]
    have := heap_alloc_new (w.alloc (.cells #[vi, vb, vm, .int .i64 p.pre, .int .i64 p.frc, .bool p.bat, .bool p.fst] 27)) (.cells #[.slice none 0 0, .slice none 0 0, .slice none 0 0, .int .i64 0, .int .i64 0, .bool false, .bool false] 27)
    simpa using this
  · have := heap_alloc_new ((w.alloc (.cells #[vi, vb, vm, .int .i64 p.pre, .int .i64 p.frc, .bool p.bat, .bool p.fst] 27)).alloc (.cells #[.slice none 0 0, .slice none 0 0, .slice none 0 0, .int .i64 0, .int .i64 0, .bool false, .bool false] 27)) (.cells #[.string ⟨#[]⟩, .string ⟨#[]⟩] 29)
    simpa using this
  · exact (((Below.refl w.heap.size w).alloc (Nat.le_refl _) _).alloc (by simp) _).alloc (by simp; omega) _
  · simp
theorem own_three {base : Nat} {e : TypeId} {size n : Nat} {v : Value} {xs : List Value} (h : W.ownsRow base e size v n xs) (hb : w.heap.size + 3 ≤ base) (ho : Only (fun k => k = w.heap.size) W W') : W'.ownsRow base e size v n xs :=
  own_only h ho (fun k hk e => by have := (h.lt k hk).1; omega)
end

/-- What follows an inner reading. -/
def IncTo (r : Res) (f : PF → Res) (rr : Res) : Prop := r = match rr with
  | .ok q => f q
  | .error e => .error e
/-- What a reading tells the document. -/
def RReadOut (w : World) (r : Res) (e : Ending) (w' : World) : Prop :=
  ∃ A0 c0 A1 c1 A2 c2 p' t' k, e = .returned (.tuple #[pfV A0 c0 A1 c1 A2 c2 p', .agg #[.string ⟨(Txt.name t').toArray⟩, .string ⟨t'.text.toArray⟩], .int .i64 (k : Nat)]) ∧ PfAtT w' A0 c0 A1 c1 A2 c2 p' ∧ Below w.heap.size w w' ∧ match r with
    | .ok q => p' = q ∧ k = 0 ∧ Short q
    | .error x => t' = x.1 ∧ k = x.2

set_option maxHeartbeats 8000000 in
set_option maxRecDepth 100000 in
theorem rread_any (T : List Txt) (A : Option Addr) (c : Nat) (hl : T.length ≤ 9223372036854775807) (hx : ∀ x ∈ T, x.text.length ≤ 9223372036854775807) : ∀ (d : Nat) (inside : List (List UInt8)) (name : List UInt8) (p : PF) (A0 : Option Addr) (c0 : Nat) (A1 : Option Addr) (c1 : Nat) (A2 : Option Addr) (c2 : Nat) (I : Option Addr) (ci : Nat) (w : World),
    inside.length + d = 8 → 1 ≤ d → findT T name ≠ none → Short p → PfAtT w A0 c0 A1 c1 A2 c2 p → IsRows w 2 A (T.map txtV) → Reads w 1 I inside.length (strs inside) →
    Calls Tryd.prog 15 #[pfV A0 c0 A1 c1 A2 c2 p, .slice A T.length c, .string ⟨name.toArray⟩, .slice I inside.length ci] w (RReadOut w (readP T d inside name p)) := by
  intro d
  induction d with
  | zero => intro inside name p A0 c0 A1 c1 A2 c2 I ci w _ h1; omega
  | succ d ih =>
    intro inside name p A0 c0 A1 c1 A2 c2 I ci w hd _ hfn hsh h hR hI
    have HIH := Lib.hid ih
    clear ih
    obtain ⟨i, hfi⟩ : ∃ i, findT T name = some i := by cases hf : findT T name with | none => exact absurd hf hfn | some i => exact ⟨i, rfl⟩
    have hil := findT_lt hfi
    have HRW := Lib.hid (fun W (hW : Below w.heap.size w W) => hR.below hW)
    have HF := Lib.hid (fun W (hW : Below w.heap.size w W) => rfind_any T A c name W (hR.below hW) hl)
    have hfI : findI T name = (i : Int) := by unfold findI; rw [hfi]
    rw [hfI] at HF
    have hrd : readP T (d + 1) inside name p = if 65536 < (T.getD i ⟨[], []⟩).text.length then .error (⟨name, [48]⟩, 1) else linesP (readP T d (inside ++ [name])) T (inside ++ [name]) name 0 (cutAt 10 [] (T.getD i ⟨[], []⟩).text) p := by
      rw [readP, hfi]
    obtain ⟨r, hr⟩ : ∃ r, readP T (d + 1) inside name p = r := ⟨_, rfl⟩
    rw [hr] at hrd ⊢
    have HTX := Lib.hid (fun W (hW : Below w.heap.size w W) => txt_cells (hR.below hW) hil)
    obtain ⟨ad, rfl, -, -⟩ := txt_cells hR hil
    have hxt : (T.getD i ⟨[], []⟩).text.length ≤ 9223372036854775807 := by
      rw [List.getD_eq_getElem?_getD, List.getElem?_eq_getElem hil, Option.getD_some]; exact hx _ (List.getElem_mem hil)
    generalize (T.getD i ⟨[], []⟩).text = txt at *
    have i0 : (0 : Int) ≤ (i : Int) := by omega
    have i1 : (i : Int) < (T.length : Int) := by omega
    have HRD := Lib.hid hrd
    have HI := Lib.hid hI
    have HP := Lib.hid h
    obtain ⟨W0, hW0⟩ : ∃ W0, ((w.alloc (.cells #[.slice A0 p.ign.length c0, .slice A1 p.bak.length c1, .slice A2 p.mrg.length c2, .int .i64 p.pre, .int .i64 p.frc, .bool p.bat, .bool p.fst] 27)).alloc (.cells #[.slice none 0 0, .slice none 0 0, .slice none 0 0, .int .i64 0, .int .i64 0, .bool false, .bool false] 27)).alloc (.cells #[.string ⟨#[]⟩, .string ⟨#[]⟩] 29) = W0 := ⟨_, rfl⟩
    have HX0 := Lib.hid (show Rx w (.slice A0 p.ign.length c0) (.slice A1 p.bak.length c1) (.slice A2 p.mrg.length c2) p W0 by rw [← hW0]; exact rx_start p _ _ _ w)
    have HW0 := Lib.hid hW0
    clear hW0 hrd hr hfI hfi hfn h hR hI
    unfold pfV
    go_enter Tryd.func15, Tryd.ntmps15
    go_upto_region 1 with (fail)
    rw [HW0.out]
    go_wp2_with (fail)
    refine (HF.out _ HX0.out.below).mono ?_
    rintro e W1 ⟨rfl, hw1⟩
    have HX1 := Lib.hid (HX0.out.on hw1)
    obtain ⟨ad', had', -, t1⟩ := HTX.out _ HX1.out.below
    injection had' with had'
    subst had'
    clear hw1 HX0 HF
    by_cases hlong : 65536 < txt.length
    · have HRR := Lib.hid (HRD.out.trans (if_pos hlong))
      have g1 : (65536 : Int) < (txt.length : Int) := by omega
      have HP1 := Lib.hid (HP.out.below HX1.out.below)
      clear HRD hlong
      obtain ⟨p0, p1, p2, p3, p4, p5, p6⟩ := HX1.out.cells
      obtain ⟨q0, q1, q2, q3, q4, q5, q6, q7, q8⟩ := HX1.out.rcells
      have z1 := fun i => (HX1.out.rsoft i).1
      have z2 := fun i => (HX1.out.rsoft i).2
      obtain ⟨WZ, hWZ⟩ : ∃ WZ, fillT w W1 (.slice A0 p.ign.length c0) (.slice A1 p.bak.length c1) (.slice A2 p.mrg.length c2) p name [48] = WZ := ⟨_, rfl⟩
      have HF := Lib.hid (hWZ ▸ HX1.out.fill name [48])
      have HPZ : Hid (PfAtT WZ A0 c0 A1 c1 A2 c2 p) := Lib.hid (HP1.out.only (hWZ ▸ (HX1.out.fill name [48]).2.2.2) HX1.out.tags)
      have HWZ := Lib.hid (show _ = WZ from hWZ)
      clear hWZ
      unfold fillT at HWZ
      go_wp2_with (fail)
      rw [HWZ.out]
      refine bodyPost_ret (results_rows_tmp Tryd.results15 _ WZ (w.heap.size + 1) (w.heap.size + 1 + 1) 27 29 _ _ (0, 0) (0, 0) _ _ rfl HF.out.1 Tryd.underlying27 rfl size_pf rfl HF.out.2.1 Tryd.underlying29 rfl size_txt) rfl ?_
      exact ⟨_, _, _, _, _, _, p, ⟨name, [48]⟩, _, rfl, HPZ.out, HF.out.2.2.1, by rw [HRR.out]; exact ⟨rfl, rfl⟩⟩
    · have HRR := Lib.hid (HRD.out.trans (if_neg hlong))
      have g1 : ¬ (65536 : Int) < (txt.length : Int) := by omega
      have hlen : txt.length ≤ 65536 := by omega
      clear HRD hlong
      obtain ⟨it0, hi1, hy0, hy1, hy2⟩ := info_parts info_string
      have HIN := Lib.hid hi1
      have HRI := Lib.hid (HI.out.below HX1.out.below)
      have hs1 := HX1.out.size
      clear hi1
      go_wp2_with (at_builtin; refine wpList_append_slice rfl _ _ 44 rfl W1.heap.size 9 it0 _ 1 16 Tryd.underlying44 HIN.out hy0 hy1 hy2 rfl (by decide) (some ⟨W1.heap.size, 0, none⟩) 0 0 [] rfl (empty_ownP W1 9 1) I inside.length ci (strs inside) rfl (HRI.out.below ((Below.refl _ _).alloc (Nat.le_refl _) _)) (strs_oneCell inside) ?x3 ?x4 ?x5 ?_)
      case x3 => unfold maxLen; omega
      case x4 => omega
      all_goals try (first | exact Nat.le_refl _ | (simp; done))
      intro Aa ca w2 hown2 hg2
      have hb2 : Below W1.heap.size W1 w2 := ((Below.refl _ _).alloc (Nat.le_refl _) _).grown hg2 (by simp) (fun k hk => by
        have hk' : W1.heap.size = k := by injection hk
        omega)
      try simp only [Nat.zero_add, List.nil_append] at hown2
      have HO2 := Lib.hid hown2
      have hs3 := hb2.size
      clear hown2 hg2 HRI t1
      go_wp2_with (at_builtin; refine wpList_append_two rfl _ _ 44 rfl W1.heap.size 9 it0 _ 1 16 Tryd.underlying44 HIN.out hy0 hy1 hy2 rfl (by decide) _ _ _ rfl (HO2.out.alloc _) ⟨w2.heap.size, 0, none⟩ 1 1 [.string ⟨name.toArray⟩] rfl rfl (laid_one _ _ _) (one_oneCell rfl) ?y3 ?y4 ?y5 ?_)
      case y3 => unfold maxLen; omega
      case y4 => omega
      case y5 => first | omega | (simp; omega)
      intro v3 w3 hown3 hg3 hl3
      obtain ⟨A5, c5, rfl, -, -, -⟩ := IsSlice.of_own hown3
      have hb3 : Below W1.heap.size W1 w3 := (hb2.alloc hb2.size _).grown hg3 (by simp; omega) (fun k hk => (HO2.out.lt k hk).1)
      have HX3 := Lib.hid (HX1.out.on hb3)
      have hs13 := hb3.size
      have HOW := Lib.hid (show w3.ownsRow W1.heap.size 9 1 (.slice A5 (inside.length + 1) c5) (inside ++ [name]).length (strs (inside ++ [name])) by rw [strs_append, List.length_append]; exact hown3)
      obtain ⟨ad', had', -, t1⟩ := HTX.out _ HX3.out.below
      injection had' with had'
      subst had'
      clear hown3 hg3 hl3 hb2 hb3 HX1 HO2
      have HLN := Lib.hid (fun W => rlines_any txt W (by omega))
      have hll := cutAt_length 10 [] txt
      have hcc : txt.count 10 ≤ txt.length := List.count_le_length
      have HPL := Lib.hid (piece_le 10 txt)
      generalize cutAt 10 [] txt = L at *
      have hLl : L.length ≤ 65537 := by omega
      clear hll hcc
      go_wp2_with (fail)
      refine (HLN.out _).mono ?_
      rintro e w4 ⟨v4, rfl, hown4, hb4⟩
      obtain ⟨A6, c6, rfl, -, -, -⟩ := IsSlice.of_own hown4
      have HX4 := Lib.hid (HX3.out.on hb4)
      have HOW4 := Lib.hid (own_base (own_below HOW.out hb4) hs1)
      have HOL4 := Lib.hid (own_base hown4 (Nat.le_trans hs1 hs13))
      have HP4 := Lib.hid (HP.out.below HX4.out.below)
      clear hown4 hb4 HX3 HOW HLN t1
      clear HP HI HTX
      go_wp2_with (fail)
      go_loopw [14] (fun t14 W => ∃ (k : Nat) (p' : PF) (B0 : Option Addr) (d0 : Nat) (B1 : Option Addr) (d1 : Nat) (B2 : Option Addr) (d2 : Nat), k ≤ L.length ∧ t14 = .int .i64 k ∧ Hid (Rx w (.slice B0 p'.ign.length d0) (.slice B1 p'.bak.length d1) (.slice B2 p'.mrg.length d2) p' W) ∧ Hid (PfAtT W B0 d0 B1 d1 B2 d2 p') ∧ Hid (W.ownsRow (w.heap.size + 3) 9 1 (.slice A5 (inside.length + 1) c5) (inside ++ [name]).length (strs (inside ++ [name]))) ∧ Hid (W.ownsRow (w.heap.size + 3) 9 1 (.slice A6 L.length c6) L.length (strs L)) ∧ Hid (Short p') ∧ Hid (r = linesP (readP T d (inside ++ [name])) T (inside ++ [name]) name k (L.drop k) p')) (fun t14 _ => L.length - (intOf t14).toNat)
      case atStart => exact ⟨0, p, _, _, _, _, _, _, by omega, rfl, HX4, HP4, HOW4, HOL4, Lib.hid hsh, Lib.hid (by rw [HRR.out]; rfl)⟩
      case round =>
        clear HX4 HP4 HOW4 HOL4
        obtain ⟨k, p', B0, d0, B1, d1, B2, d2, hk, rfl, HX, HP, HW, HL, HSH, HE⟩ := hrel
        have k0 : (0 : Int) ≤ k := by omega
        by_cases hlt : k < L.length
        · have k1 : (k : Int) < L.length := by omega
          have e1 : IntKind.i64.wrap ((k : Int) + 1) = (k : Int) + 1 := IntWalk.i64_in _ (by omega)
          obtain ⟨al, rfl, cl⟩ := (Reads.of_own HL.out).str_at hlt
          have hpl := HPL.out _ (List.getElem_mem hlt)
          have hLL := HE.out
          rw [List.drop_eq_getElem_cons hlt, linesP_cons] at hLL
          generalize L[k] = l at *
          have HCUT := Lib.hid (fun W => rcut_any l W (by omega))
          have hcl := cut_le l
          have hSK : ((cutP l).1 = [] ∨ (cutP l).1.head? = some 35) → r = linesP (readP T d (inside ++ [name])) T (inside ++ [name]) name (k + 1) (L.drop (k + 1)) p' := fun h => by rw [lineP_skip h] at hLL; exact hLL
          have hSY : ¬ ((cutP l).1 = [] ∨ (cutP l).1.head? = some 35) → (cutP l).1 ≠ wInclude → r = match saysP p' (cutP l).1 (cutP l).2 with
              | some q => linesP (readP T d (inside ++ [name])) T (inside ++ [name]) name (k + 1) (L.drop (k + 1)) q
              | none => .error (⟨name, decL (k + 1)⟩, 80) := fun h h2 => by
            rw [lineP_says h h2] at hLL
            cases hs : saysP p' (cutP l).1 (cutP l).2 with
            | none => rw [hs] at hLL; exact hLL
            | some q => rw [hs] at hLL; exact hLL
          have hIN : (cutP l).1 = wInclude → (incN T (inside ++ [name]) (cutP l).2 ≠ 0 → r = .error (⟨name, decL (k + 1)⟩, incN T (inside ++ [name]) (cutP l).2)) ∧ (incN T (inside ++ [name]) (cutP l).2 = 0 → IncTo r (fun q => linesP (readP T d (inside ++ [name])) T (inside ++ [name]) name (k + 1) (L.drop (k + 1)) q) (readP T d (inside ++ [name]) (cutP l).2 p')) := fun h2 => by
            rw [lineP_inc h2] at hLL
            exact ⟨fun h => by rw [if_pos h] at hLL; exact hLL, fun h => by rw [if_neg (by simpa using h)] at hLL; unfold IncTo; exact hLL⟩
          generalize (cutP l).1 = wd at *
          generalize (cutP l).2 = a at *
          have HSK := Lib.hid hSK
          have HSY := Lib.hid hSY
          have HIN2 := Lib.hid hIN
          clear hSK hSY hIN hLL HE
          have hal2 : a.length ≤ 4294967280 := by omega
          clear hcl
          by_cases hemp : wd = []
          · subst hemp
            have HN := Lib.hid (HSK.out (.inl rfl))
            clear HSK HSY HIN2
            go_wp2_with (fail)
            refine (HCUT.out _).mono ?_
            rintro e W5 ⟨rfl, hw5⟩
            have HX5 := Lib.hid (HX.out.on hw5)
            have HP5 := Lib.hid (HP.out.below hw5)
            have HW5 := Lib.hid (own_below HW.out hw5)
            have HL5 := Lib.hid (own_below HL.out hw5)
            clear hw5 HX HP HW HL cl
            go_wp2_with (fail)
            go_roundw
            case rel => exact ⟨k + 1, p', _, _, _, _, _, _, by omega, by go_num, HX5, HP5, HW5, HL5, HSH, HN⟩
            case measure => simp [intOf]; omega
          · obtain ⟨x, hx⟩ : ∃ x, wd.head? = some x := by cases wd with | nil => exact absurd rfl hemp | cons x _ => exact ⟨x, rfl⟩
            have hpos : 0 < wd.length := List.length_pos_iff.2 hemp
            have hx0 : wd[0]'hpos = x := by cases wd with | nil => cases hx | cons y _ => simpa using hx
            have hie : wd.isEmpty = false := by cases wd with | nil => exact absurd rfl hemp | cons y _ => rfl
            have HXH := Lib.hid hx
            have HE0 := Lib.hid hemp
            clear hx hemp
            by_cases h35 : x = 35
            · have HN := Lib.hid (HSK.out (.inr (by rw [HXH.out, h35])))
              subst h35
              clear HSK HSY HIN2 HXH HE0
              go_wp2_with (fail)
              refine (HCUT.out _).mono ?_
              rintro e W5 ⟨rfl, hw5⟩
              have HX5 := Lib.hid (HX.out.on hw5)
              have HP5 := Lib.hid (HP.out.below hw5)
              have HW5 := Lib.hid (own_below HW.out hw5)
              have HL5 := Lib.hid (own_below HL.out hw5)
              clear hw5 HX HP HW HL cl
              go_wp2_with (fail)
              go_roundw
              case rel => exact ⟨k + 1, p', _, _, _, _, _, _, by omega, by go_num, HX5, HP5, HW5, HL5, HSH, HN⟩
              case measure => simp [intOf]; omega
            · have g35 : ((x.toNat : Int) == 35) = false := by
                rw [beq_eq_false_iff_ne]; intro e; exact h35 (UInt8.toNat_inj.1 (by simpa using (by omega : x.toNat = 35)))
              have HNS := Lib.hid (show ¬ (wd = [] ∨ wd.head? = some 35) by
                rintro (e | e)
                · exact HE0.out e
                · rw [HXH.out] at e; injection e with e; exact h35 e)
              clear HSK HXH HE0 h35
              go_wp2_with (fail)
              refine (HCUT.out _).mono ?_
              rintro e W5 ⟨rfl, hw5⟩
              have HX5 := Lib.hid (HX.out.on hw5)
              have HP5 := Lib.hid (HP.out.below hw5)
              have HW5 := Lib.hid (own_below HW.out hw5)
              have HL5 := Lib.hid (own_below HL.out hw5)
              have hdc := decimal_any (k + 1) (by omega) W5
              rw [show (((k + 1 : Nat)) : Int) = (k : Int) + 1 by omega] at hdc
              have HDC := Lib.hid hdc
              clear hw5 HX HP HW HL cl hdc
              go_wp2_with (fail)
              refine HDC.out.mono ?_
              rintro e W6 ⟨rfl, hw6⟩
              generalize decL (k + 1) = dn at *
              obtain ⟨W7, hW7⟩ : ∃ W7, W6.alloc (.cells #[.string ⟨name.toArray⟩, .string ⟨dn.toArray⟩] 29) = W7 := ⟨_, rfl⟩
              have hw7 : Below W5.heap.size W5 W7 := by rw [← hW7]; exact hw6.alloc hw6.size _
              have hh7 : W7.heap[W6.heap.size]? = some (.cells #[.string ⟨name.toArray⟩, .string ⟨dn.toArray⟩] 29 (0, 0)) := by rw [← hW7]; exact heap_alloc_new _ _
              have hz7 : W6.heap.size < W7.heap.size := by rw [← hW7]; simp
              have HX7 := Lib.hid (HX5.out.on hw7)
              have HP7 := Lib.hid (HP5.out.below hw7)
              have HW7x := Lib.hid (own_below HW5.out hw7)
              have HL7 := Lib.hid (own_below HL5.out hw7)
              have HH := Lib.hid hh7
              have HW7 := Lib.hid hW7
              generalize hgn : W6.heap.size = hb at *
              have hbz : w.heap.size + 3 ≤ hb := by have := HX5.out.size; have := hw6.size; omega
              clear hw6 hw7 hh7 hW7 HX5 HP5 HW5 HL5 HDC hx0
              go_upto_region 12 with (fail)
              rw [HW7.out]
              clear HW7 hgn
              have hal3 : a.length ≤ 4294967280 := hal2
              by_cases hinc : wd = wInclude
              · have ginc : (wd == [105, 110, 99, 108, 117, 100, 101]) = true := by rw [hinc]; rfl
                have HI2 := Lib.hid (HIN2.out hinc)
                have HFD := Lib.hid (fun W (hW : Below w.heap.size w W) => rfind_any T (some ad) c a W (HRW.out W hW) hl)
                clear HSY HNS HIN2 hinc
                cases hf : findT T a with
                | none =>
                  have hfI : findI T a = -1 := by unfold findI; rw [hf]
                  rw [hfI] at HFD
                  have hin : incN T (inside ++ [name]) a = 82 := by unfold incN; rw [hf]
                  have hrr := HI2.out.1 (by rw [hin]; decide)
                  rw [hin] at hrr
                  have HRR2 := Lib.hid hrr
                  clear hf hfI hin hrr HI2
                  go_wp2_with (fail)
                  refine (HFD.out _ HX7.out.below).mono ?_
                  rintro e W8 ⟨rfl, hw8⟩
                  have HX8 := Lib.hid (HX7.out.on hw8)
                  have HP8 := Lib.hid (HP7.out.below hw8)
                  have hh8 := (hw8.block _ hz7).trans HH.out
                  clear hw8 HX7 HP7 HW7x HL7
                  have y0 : W8.cell? ⟨hb, 0, none⟩ = some (.string ⟨(name).toArray⟩) := cell_of_row _ _ 0 _ _ _ hh8
                  have y1 : W8.cell? ⟨hb, 1, none⟩ = some (.string ⟨(dn).toArray⟩) := cell_of_row _ _ 1 _ _ _ hh8
                  have n1 : hb ≠ w.heap.size + 1 := by omega
                  have n2 : hb ≠ w.heap.size + 1 + 1 := by omega
                  have n3 : w.heap.size + 1 ≠ hb := by omega
                  have n4 : w.heap.size + 1 + 1 ≠ hb := by omega
                  clear hbz
                  obtain ⟨p0, p1, p2, p3, p4, p5, p6⟩ := HX8.out.cells
                  obtain ⟨q0, q1, q2, q3, q4, q5, q6, q7, q8⟩ := HX8.out.rcells
                  have z1 := fun i => (HX8.out.rsoft i).1
                  have z2 := fun i => (HX8.out.rsoft i).2
                  obtain ⟨WZ, hWZ⟩ : ∃ WZ, fillT w W8 (.slice B0 p'.ign.length d0) (.slice B1 p'.bak.length d1) (.slice B2 p'.mrg.length d2) p' name dn = WZ := ⟨_, rfl⟩
                  have HF := Lib.hid (hWZ ▸ HX8.out.fill name dn)
                  have HPZ : Hid (PfAtT WZ B0 d0 B1 d1 B2 d2 p') := Lib.hid (HP8.out.only (hWZ ▸ (HX8.out.fill name dn).2.2.2) HX8.out.tags)
                  have HWZ := Lib.hid (show _ = WZ from hWZ)
                  clear hWZ
                  unfold fillT at HWZ
                  go_wp2_with (fail)
                  go_region
                  go_wp2_with (fail)
                  rw [HWZ.out]
                  refine bodyPost_ret (results_rows_tmp Tryd.results15 _ WZ.drew (w.heap.size + 1) (w.heap.size + 1 + 1) 27 29 _ _ (0, 0) (0, 0) _ _ rfl HF.out.1 Tryd.underlying27 rfl size_pf rfl HF.out.2.1 Tryd.underlying29 rfl size_txt) rfl ?_
                  exact ⟨_, _, _, _, _, _, p', ⟨name, dn⟩, _, rfl, HPZ.out.below (still_drew _), HF.out.2.2.1.trans ((still_drew _).mono HF.out.2.2.1.size), by rw [HRR2.out]; exact ⟨rfl, rfl⟩⟩
                | some fi =>
                  have hfI : findI T a = (fi : Int) := by unfold findI; rw [hf]
                  rw [hfI] at HFD
                  have f0 : decide ((fi : Int) < 0) = false := by rw [decide_eq_false_iff_not]; omega
                  have HFN := Lib.hid (show findT T a ≠ none by rw [hf]; simp)
                  have HINC : Hid (((inside ++ [name]).contains a = true → incN T (inside ++ [name]) a = 81) ∧ ((inside ++ [name]).contains a = false → 8 ≤ (inside ++ [name]).length → incN T (inside ++ [name]) a = 80) ∧ ((inside ++ [name]).contains a = false → ¬ 8 ≤ (inside ++ [name]).length → incN T (inside ++ [name]) a = 0)) := Lib.hid ⟨fun h => by unfold incN; rw [hf]; exact if_pos h, fun h h2 => by unfold incN; rw [hf]; exact (if_neg (by rw [h]; decide)).trans (if_pos h2), fun h h2 => by unfold incN; rw [hf]; exact (if_neg (by rw [h]; decide)).trans (if_neg h2)⟩
                  clear hf hfI
                  go_wp2_with (fail)
                  refine (HFD.out _ HX7.out.below).mono ?_
                  rintro e W8 ⟨rfl, hw8⟩
                  have HX8 := Lib.hid (HX7.out.on hw8)
                  have HP8 := Lib.hid (HP7.out.below hw8)
                  have HW8 := Lib.hid (own_below HW7x.out hw8)
                  have HL8 := Lib.hid (own_below HL7.out hw8)
                  have HH8 := Lib.hid ((hw8.block _ hz7).trans HH.out)
                  have hz8 : hb < W8.heap.size := Nat.lt_of_lt_of_le hz7 hw8.size
                  clear hw8 HX7 HP7 HW7x HL7 HH hz7
                  obtain ⟨N, hN⟩ : ∃ N, inside ++ [name] = N := ⟨_, rfl⟩
                  have hNl : N.length = inside.length + 1 := by rw [← hN]; simp
                  rw [hN] at HINC HI2 HW8
                  have HNN := Lib.hid hN
                  clear hN
                  go_wp2_with (fail)
                  go_loopw [20] (fun t20 W => ∃ m : Nat, m ≤ N.length ∧ t20 = .int .i64 m ∧ W = W8 ∧ Hid (∀ j, ∀ h : j < N.length, j < m → (N[j] == a) = false)) (fun t20 _ => N.length - (intOf t20).toNat)
                  case atStart => exact ⟨0, by omega, rfl, rfl, Lib.hid (fun j h hj => by omega)⟩
                  case round =>
                    obtain ⟨m, hm, rfl, rfl, HNO⟩ := hrel
                    have m0 : (0 : Int) ≤ m := by omega
                    by_cases hlm : m < N.length
                    · have m1 : (m : Int) < (inside.length : Int) + 1 := by omega
                      have e2 : IntKind.i64.wrap ((m : Int) + 1) = (m : Int) + 1 := IntWalk.i64_in _ (by omega)
                      have hw8' := HW8.out
                      rw [← hNl] at hw8'
                      obtain ⟨al2, rfl, cm⟩ := (Reads.of_own hw8').str_at hlm
                      clear hw8'
                      have hhit : (N[m] == a) = true → N.contains a = true := fun h => by
                        rw [List.contains_iff_mem, ← show N[m] = a by simpa using h]; exact List.getElem_mem hlm
                      have hnx : (N[m] == a) = false → ∀ j, ∀ h : j < N.length, j < m + 1 → (N[j] == a) = false := fun h j hj hj2 => by
                        by_cases e : j = m
                        · subst e; exact h
                        · exact HNO.out j hj (by omega)
                      generalize N[m] = y at *
                      have HHIT := Lib.hid hhit
                      have HNX := Lib.hid hnx
                      clear hhit hnx
                      cases hya : (y == a) with
                      | true =>
                        have hrr := HI2.out.1 (by rw [HINC.out.1 (HHIT.out hya)]; decide)
                        rw [HINC.out.1 (HHIT.out hya)] at hrr
                        have HRR2 := Lib.hid hrr
                        have hh8 := HH8.out
                        clear hrr HI2 HINC HHIT HNX HNO HW8 HL8
                        have y0 : wr.cell? ⟨hb, 0, none⟩ = some (.string ⟨(name).toArray⟩) := cell_of_row _ _ 0 _ _ _ hh8
                        have y1 : wr.cell? ⟨hb, 1, none⟩ = some (.string ⟨(dn).toArray⟩) := cell_of_row _ _ 1 _ _ _ hh8
                        have n1 : hb ≠ w.heap.size + 1 := by omega
                        have n2 : hb ≠ w.heap.size + 1 + 1 := by omega
                        have n3 : w.heap.size + 1 ≠ hb := by omega
                        have n4 : w.heap.size + 1 + 1 ≠ hb := by omega
                        clear hbz
                        obtain ⟨p0, p1, p2, p3, p4, p5, p6⟩ := HX8.out.cells
                        obtain ⟨q0, q1, q2, q3, q4, q5, q6, q7, q8⟩ := HX8.out.rcells
                        have z1 := fun i => (HX8.out.rsoft i).1
                        have z2 := fun i => (HX8.out.rsoft i).2
                        obtain ⟨WZ, hWZ⟩ : ∃ WZ, fillT w wr (.slice B0 p'.ign.length d0) (.slice B1 p'.bak.length d1) (.slice B2 p'.mrg.length d2) p' name dn = WZ := ⟨_, rfl⟩
                        have HF := Lib.hid (hWZ ▸ HX8.out.fill name dn)
                        have HPZ : Hid (PfAtT WZ B0 d0 B1 d1 B2 d2 p') := Lib.hid (HP8.out.only (hWZ ▸ (HX8.out.fill name dn).2.2.2) HX8.out.tags)
                        have HWZ := Lib.hid (show _ = WZ from hWZ)
                        clear hWZ
                        unfold fillT at HWZ
                        go_wp2_with (fail)
                        go_region
                        go_wp2_with (fail)
                        rw [HWZ.out]
                        refine bodyPost_ret (results_rows_tmp Tryd.results15 _ WZ.drew (w.heap.size + 1) (w.heap.size + 1 + 1) 27 29 _ _ (0, 0) (0, 0) _ _ rfl HF.out.1 Tryd.underlying27 rfl size_pf rfl HF.out.2.1 Tryd.underlying29 rfl size_txt) rfl ?_
                        exact ⟨_, _, _, _, _, _, p', ⟨name, dn⟩, _, rfl, HPZ.out.below (still_drew _), HF.out.2.2.1.trans ((still_drew _).mono HF.out.2.2.1.size), by rw [HRR2.out]; exact ⟨rfl, rfl⟩⟩
                      | false =>
                        have HN2 := Lib.hid (HNX.out hya)
                        clear HHIT HNX HNO
                        go_wp2_with (fail)
                        go_roundw
                        case rel => exact ⟨m + 1, by omega, by go_num, by first | trivial | rfl, HN2⟩
                        case measure => simp [intOf]; omega
                    · obtain rfl : m = N.length := by omega
                      have m1 : ¬ ((N.length : Nat) : Int) < (inside.length : Int) + 1 := by omega
                      have hno : N.contains a = false := by
                        rw [← Bool.not_eq_true, List.contains_iff_mem]
                        intro hmm
                        obtain ⟨j, hj, e⟩ := List.getElem_of_mem hmm
                        have := HNO.out j hj hj
                        rw [e] at this; simp at this
                      by_cases h8 : 8 ≤ N.length
                      · have hinc2 := HINC.out.2.1 hno h8
                        have hrr := HI2.out.1 (by rw [hinc2]; decide)
                        rw [hinc2] at hrr
                        have HRR2 := Lib.hid hrr
                        have g8 : decide ((8 : Int) ≤ (inside.length : Int) + 1) = true := by rw [decide_eq_true_eq]; omega
                        have g9 : decide (8 ≤ inside.length + 1) = true := by rw [decide_eq_true_eq]; omega
                        have hh8 := HH8.out
                        clear hrr hinc2 HI2 HINC hno HNO HW8 HL8 h8
                        have y0 : wr.cell? ⟨hb, 0, none⟩ = some (.string ⟨(name).toArray⟩) := cell_of_row _ _ 0 _ _ _ hh8
                        have y1 : wr.cell? ⟨hb, 1, none⟩ = some (.string ⟨(dn).toArray⟩) := cell_of_row _ _ 1 _ _ _ hh8
                        have n1 : hb ≠ w.heap.size + 1 := by omega
                        have n2 : hb ≠ w.heap.size + 1 + 1 := by omega
                        have n3 : w.heap.size + 1 ≠ hb := by omega
                        have n4 : w.heap.size + 1 + 1 ≠ hb := by omega
                        clear hbz
                        obtain ⟨p0, p1, p2, p3, p4, p5, p6⟩ := HX8.out.cells
                        obtain ⟨q0, q1, q2, q3, q4, q5, q6, q7, q8⟩ := HX8.out.rcells
                        have z1 := fun i => (HX8.out.rsoft i).1
                        have z2 := fun i => (HX8.out.rsoft i).2
                        obtain ⟨WZ, hWZ⟩ : ∃ WZ, fillT w wr (.slice B0 p'.ign.length d0) (.slice B1 p'.bak.length d1) (.slice B2 p'.mrg.length d2) p' name dn = WZ := ⟨_, rfl⟩
                        have HF := Lib.hid (hWZ ▸ HX8.out.fill name dn)
                        have HPZ : Hid (PfAtT WZ B0 d0 B1 d1 B2 d2 p') := Lib.hid (HP8.out.only (hWZ ▸ (HX8.out.fill name dn).2.2.2) HX8.out.tags)
                        have HWZ := Lib.hid (show _ = WZ from hWZ)
                        clear hWZ
                        unfold fillT at HWZ
                        go_wp2_with (fail)
                        go_region
                        go_wp2_with (fail)
                        rw [HWZ.out]
                        refine bodyPost_ret (results_rows_tmp Tryd.results15 _ WZ.drew (w.heap.size + 1) (w.heap.size + 1 + 1) 27 29 _ _ (0, 0) (0, 0) _ _ rfl HF.out.1 Tryd.underlying27 rfl size_pf rfl HF.out.2.1 Tryd.underlying29 rfl size_txt) rfl ?_
                        exact ⟨_, _, _, _, _, _, p', ⟨name, dn⟩, _, rfl, HPZ.out.below (still_drew _), HF.out.2.2.1.trans ((still_drew _).mono HF.out.2.2.1.size), by rw [HRR2.out]; exact ⟨rfl, rfl⟩⟩
                      · have hinc2 := HINC.out.2.2 hno h8
                        have HI3 := Lib.hid (HI2.out.2 hinc2)
                        have g8 : decide ((8 : Int) ≤ (inside.length : Int) + 1) = false := by rw [decide_eq_false_iff_not]; omega
                        have g9 : decide (8 ≤ inside.length + 1) = false := by rw [decide_eq_false_iff_not]; omega
                        have HRC := Lib.hid (HIH.out N a p' B0 d0 B1 d1 B2 d2 A5 c5 wr (by omega) (by omega) HFN.out HSH.out HP8.out (HRW.out _ HX8.out.below) (Reads.of_own (base := w.heap.size + 3) (e := 9) (c := c5) (by rw [hNl]; rw [hNl] at HW8; exact HW8.out)))
                        unfold pfV at HRC
                        rw [hNl] at HRC
                        obtain ⟨p0, p1, p2, p3, p4, p5, p6⟩ := HX8.out.cells
                        clear hinc2 HI2 HINC hno HNO h8 HH8
                        generalize hrd2 : readP T d N a p' = rr at HRC HI3
                        go_wp2_with (fail)
                        refine HRC.out.mono ?_
                        rintro e W9 ⟨C0, e0, C1, e1', C2, e2', q, tq, kq, rfl, hpq, hb9, hmt⟩
                        unfold pfV
                        have HX9 := Lib.hid (HX8.out.on hb9)
                        have HP9 := Lib.hid (HP8.out.below hb9)
                        have HW9 := Lib.hid (own_below HW8.out hb9)
                        have HL9 := Lib.hid (own_below HL8.out hb9)
                        obtain ⟨Wq, hWq⟩ : ∃ Wq, (W9.alloc (.cells #[.slice C0 q.ign.length e0, .slice C1 q.bak.length e1', .slice C2 q.mrg.length e2', .int .i64 q.pre, .int .i64 q.frc, .bool q.bat, .bool q.fst] 27)).alloc (.cells #[.string ⟨tq.name.toArray⟩, .string ⟨tq.text.toArray⟩] 29) = Wq := ⟨_, rfl⟩
                        have hbq : Below W9.heap.size W9 Wq := by rw [← hWq]; exact ((Below.refl _ _).alloc (Nat.le_refl _) _).alloc (by simp) _
                        have hq1 : Wq.heap[W9.heap.size]? = some (.cells #[.slice C0 q.ign.length e0, .slice C1 q.bak.length e1', .slice C2 q.mrg.length e2', .int .i64 q.pre, .int .i64 q.frc, .bool q.bat, .bool q.fst] 27 (0, 0)) := by rw [← hWq, Below.heap_alloc _ _ _ (by simp)]; exact heap_alloc_new _ _
                        have hq2 : Wq.heap[W9.heap.size + 1]? = some (.cells #[.string ⟨tq.name.toArray⟩, .string ⟨tq.text.toArray⟩] 29 (0, 0)) := by
                          rw [← hWq]
                          have := heap_alloc_new (W9.alloc (.cells #[.slice C0 q.ign.length e0, .slice C1 q.bak.length e1', .slice C2 q.mrg.length e2', .int .i64 q.pre, .int .i64 q.frc, .bool q.bat, .bool q.fst] 27)) (.cells #[.string ⟨tq.name.toArray⟩, .string ⟨tq.text.toArray⟩] 29)
                          simpa using this
                        have HXq := Lib.hid (HX9.out.on hbq)
                        have HPq := Lib.hid (HP9.out.below hbq)
                        have HQq := Lib.hid (hpq.below hbq)
                        have HWq := Lib.hid (own_below HW9.out hbq)
                        have HLq := Lib.hid (own_below HL9.out hbq)
                        have h9z := HX9.out.size
                        have HWQ := Lib.hid hWq
                        have HQ1 := Lib.hid hq1
                        have HQ2 := Lib.hid hq2
                        clear hb9 hpq hWq hbq hq1 hq2 HX9 HP9 HW9 HL9 HX8 HP8 HW8 HL8 p0 p1 p2 p3 p4 p5 p6 HRC
                        go_upto_region 27 with (fail)
                        rw [HWQ.out]
                        clear HWQ
                        cases rr with
                        | ok u =>
                          obtain ⟨rfl, rfl, hsq⟩ := hmt
                          have HSQ := Lib.hid hsq
                          have HI4 := Lib.hid (show r = linesP (readP T d N) T N name (k + 1) (L.drop (k + 1)) q from HI3.out)
                          clear hsq hrd2 HI3
                          rw [← HNN.out] at HWq
                          obtain ⟨p0, p1, p2, p3, p4, p5, p6⟩ := HXq.out.cells
                          have zz := HXq.out.soft
                          have y0 := cell_of_row _ _ 0 _ _ _ HQ1.out
                          have y1 := cell_of_row _ _ 1 _ _ _ HQ1.out
                          have y2 := cell_of_row _ _ 2 _ _ _ HQ1.out
                          have y3 := cell_of_row _ _ 3 _ _ _ HQ1.out
                          have y4 := cell_of_row _ _ 4 _ _ _ HQ1.out
                          have y5 := cell_of_row _ _ 5 _ _ _ HQ1.out
                          have y6 := cell_of_row _ _ 6 _ _ _ HQ1.out
                          obtain ⟨WY, hWY⟩ : ∃ WY, fillP w Wq (.slice C0 q.ign.length e0) (.slice C1 q.bak.length e1') (.slice C2 q.mrg.length e2') q = WY := ⟨_, rfl⟩
                          have hfp := HXq.out.fillp (vi' := .slice C0 q.ign.length e0) (vb' := .slice C1 q.bak.length e1') (vm' := .slice C2 q.mrg.length e2') (p' := q)
                          rw [hWY] at hfp
                          have HXY := Lib.hid hfp.1
                          have HPY := Lib.hid (HQq.out.only hfp.2 HXq.out.tagp)
                          have HWY := Lib.hid (own_three HWq.out (Nat.le_refl _) hfp.2)
                          have HLY := Lib.hid (own_three HLq.out (Nat.le_refl _) hfp.2)
                          have HYW := Lib.hid (show _ = WY from hWY)
                          clear hWY hfp
                          unfold fillP at HYW
                          go_upto_region 8 with (fail)
                          rw [HYW.out]
                          clear p0 p1 p2 p3 p4 p5 p6 zz y0 y1 y2 y3 y4 y5 y6 HYW
                          go_wp2_with (fail)
                          go_roundw
                          case rel => exact ⟨k + 1, q, C0, e0, C1, e1', C2, e2', by omega, by go_num, HXY, HPY, HWY, HLY, HSQ, by rw [HNN.out]; exact HI4⟩
                          case measure => simp [intOf]; omega
                        | error x =>
                          obtain ⟨rfl, rfl⟩ := hmt
                          have HI4 := Lib.hid (show r = .error x from HI3.out)
                          clear HI3
                          have hne := readP_err _ _ _ _ _ _ hrd2
                          have gne : (((x.2 : Nat) : Int) != 0) = true := by rw [bne_iff_ne]; omega
                          clear hne hrd2 HWq HLq HQq
                          have y0 : Wq.cell? ⟨(W9.heap.size + 1), 0, none⟩ = some (.string ⟨(x.1.name).toArray⟩) := cell_of_row _ _ 0 _ _ _ HQ2.out
                          have y1 : Wq.cell? ⟨(W9.heap.size + 1), 1, none⟩ = some (.string ⟨(x.1.text).toArray⟩) := cell_of_row _ _ 1 _ _ _ HQ2.out
                          have n1 : (W9.heap.size + 1) ≠ w.heap.size + 1 := by omega
                          have n2 : (W9.heap.size + 1) ≠ w.heap.size + 1 + 1 := by omega
                          have n3 : w.heap.size + 1 ≠ (W9.heap.size + 1) := by omega
                          have n4 : w.heap.size + 1 + 1 ≠ (W9.heap.size + 1) := by omega
                          clear h9z
                          obtain ⟨p0, p1, p2, p3, p4, p5, p6⟩ := HXq.out.cells
                          obtain ⟨q0, q1, q2, q3, q4, q5, q6, q7, q8⟩ := HXq.out.rcells
                          have z1 := fun i => (HXq.out.rsoft i).1
                          have z2 := fun i => (HXq.out.rsoft i).2
                          obtain ⟨WZ, hWZ⟩ : ∃ WZ, fillT w Wq (.slice B0 p'.ign.length d0) (.slice B1 p'.bak.length d1) (.slice B2 p'.mrg.length d2) p' x.1.name x.1.text = WZ := ⟨_, rfl⟩
                          have HF := Lib.hid (hWZ ▸ HXq.out.fill x.1.name x.1.text)
                          have HPZ : Hid (PfAtT WZ B0 d0 B1 d1 B2 d2 p') := Lib.hid (HPq.out.only (hWZ ▸ (HXq.out.fill x.1.name x.1.text).2.2.2) HXq.out.tags)
                          have HWZ := Lib.hid (show _ = WZ from hWZ)
                          clear hWZ
                          unfold fillT at HWZ
                          go_wp2_with (fail)
                          go_region
                          go_wp2_with (fail)
                          rw [HWZ.out]
                          refine bodyPost_ret (results_rows_tmp Tryd.results15 _ WZ.drew (w.heap.size + 1) (w.heap.size + 1 + 1) 27 29 _ _ (0, 0) (0, 0) _ _ rfl HF.out.1 Tryd.underlying27 rfl size_pf rfl HF.out.2.1 Tryd.underlying29 rfl size_txt) rfl ?_
                          exact ⟨_, _, _, _, _, _, p', ⟨x.1.name, x.1.text⟩, _, rfl, HPZ.out.below (still_drew _), HF.out.2.2.1.trans ((still_drew _).mono HF.out.2.2.1.size), by rw [HI4.out]; exact ⟨rfl, rfl⟩⟩
              · have ginc : (wd == [105, 110, 99, 108, 117, 100, 101]) = false := beq_eq_false_iff_ne.2 hinc
                have HSY2 := Lib.hid (HSY.out HNS.out hinc)
                have HSA := Lib.hid (rsays_any wd a HP7.out HSH.out hal3)
                unfold pfV at HSA
                have HSL := Lib.hid (fun q (h : saysP p' wd a = some q) => says_len h HSH.out)
                obtain ⟨p0, p1, p2, p3, p4, p5, p6⟩ := HX7.out.cells
                clear HSY HNS HIN2 hinc
                generalize saysP p' wd a = sr at *
                go_wp2_with (fail)
                refine HSA.out.mono ?_
                rintro e W8 ⟨C0, e0, C1, e1', C2, e2', q, rfl, hpq, hb8, hq8⟩
                unfold pfV
                have HX8 := Lib.hid (HX7.out.on hb8)
                have HP8 := Lib.hid (HP7.out.below hb8)
                have HW8 := Lib.hid (own_below HW7x.out hb8)
                have HL8 := Lib.hid (own_below HL7.out hb8)
                have hh8' := (hb8.block _ hz7).trans HH.out
                obtain ⟨Wq, hWq⟩ : ∃ Wq, W8.alloc (.cells #[.slice C0 q.ign.length e0, .slice C1 q.bak.length e1', .slice C2 q.mrg.length e2', .int .i64 q.pre, .int .i64 q.frc, .bool q.bat, .bool q.fst] 27) = Wq := ⟨_, rfl⟩
                have hbq : Below W8.heap.size W8 Wq := by rw [← hWq]; exact (Below.refl _ _).alloc (Nat.le_refl _) _
                have hq1 : Wq.heap[W8.heap.size]? = some (.cells #[.slice C0 q.ign.length e0, .slice C1 q.bak.length e1', .slice C2 q.mrg.length e2', .int .i64 q.pre, .int .i64 q.frc, .bool q.bat, .bool q.fst] 27 (0, 0)) := by rw [← hWq]; exact heap_alloc_new _ _
                have HH8 := Lib.hid ((hbq.block _ (Nat.lt_of_lt_of_le hz7 hb8.size)).trans hh8')
                have HXq := Lib.hid (HX8.out.on hbq)
                have HPq := Lib.hid (HP8.out.below hbq)
                have HQq := Lib.hid (hpq.below hbq)
                have HWq := Lib.hid (own_below HW8.out hbq)
                have HLq := Lib.hid (own_below HL8.out hbq)
                have HWQ := Lib.hid hWq
                have HQ1 := Lib.hid hq1
                have HQ8 := Lib.hid hq8
                clear hb8 hpq hWq hbq hq1 hq8 hh8' HX8 HP8 HW8 HL8 HX7 HP7 HW7x HL7 HH p0 p1 p2 p3 p4 p5 p6 HSA
                go_upto_region 14 with (fail)
                rw [HWQ.out]
                clear HWQ
                cases sr with
                | none =>
                  have hh8 := HH8.out
                  have HRR2 : Hid (r = .error (⟨name, dn⟩, 80)) := HSY2
                  clear HSL HQ8 HSY2 HWq HLq HQq
                  have y0 : Wq.cell? ⟨hb, 0, none⟩ = some (.string ⟨(name).toArray⟩) := cell_of_row _ _ 0 _ _ _ hh8
                  have y1 : Wq.cell? ⟨hb, 1, none⟩ = some (.string ⟨(dn).toArray⟩) := cell_of_row _ _ 1 _ _ _ hh8
                  have n1 : hb ≠ w.heap.size + 1 := by omega
                  have n2 : hb ≠ w.heap.size + 1 + 1 := by omega
                  have n3 : w.heap.size + 1 ≠ hb := by omega
                  have n4 : w.heap.size + 1 + 1 ≠ hb := by omega
                  clear hbz
                  obtain ⟨p0, p1, p2, p3, p4, p5, p6⟩ := HXq.out.cells
                  obtain ⟨q0, q1, q2, q3, q4, q5, q6, q7, q8⟩ := HXq.out.rcells
                  have z1 := fun i => (HXq.out.rsoft i).1
                  have z2 := fun i => (HXq.out.rsoft i).2
                  obtain ⟨WZ, hWZ⟩ : ∃ WZ, fillT w Wq (.slice B0 p'.ign.length d0) (.slice B1 p'.bak.length d1) (.slice B2 p'.mrg.length d2) p' name dn = WZ := ⟨_, rfl⟩
                  have HF := Lib.hid (hWZ ▸ HXq.out.fill name dn)
                  have HPZ : Hid (PfAtT WZ B0 d0 B1 d1 B2 d2 p') := Lib.hid (HPq.out.only (hWZ ▸ (HXq.out.fill name dn).2.2.2) HXq.out.tags)
                  have HWZ := Lib.hid (show _ = WZ from hWZ)
                  clear hWZ
                  unfold fillT at HWZ
                  go_wp2_with (fail)
                  go_region
                  go_wp2_with (fail)
                  rw [HWZ.out]
                  refine bodyPost_ret (results_rows_tmp Tryd.results15 _ WZ.drew (w.heap.size + 1) (w.heap.size + 1 + 1) 27 29 _ _ (0, 0) (0, 0) _ _ rfl HF.out.1 Tryd.underlying27 rfl size_pf rfl HF.out.2.1 Tryd.underlying29 rfl size_txt) rfl ?_
                  exact ⟨_, _, _, _, _, _, p', ⟨name, dn⟩, _, rfl, HPZ.out.below (still_drew _), HF.out.2.2.1.trans ((still_drew _).mono HF.out.2.2.1.size), by rw [HRR2.out]; exact ⟨rfl, rfl⟩⟩
                | some q2 =>
                  obtain rfl := HQ8.out q2 rfl
                  have HSQ : Hid (Short q) := Lib.hid (HSL.out _ rfl)
                  have HI3 : Hid (r = linesP (readP T d (inside ++ [name])) T (inside ++ [name]) name (k + 1) (L.drop (k + 1)) q) := HSY2
                  clear HSL HQ8 HH8 HSY2
                  obtain ⟨p0, p1, p2, p3, p4, p5, p6⟩ := HXq.out.cells
                  have zz := HXq.out.soft
                  have y0 := cell_of_row _ _ 0 _ _ _ HQ1.out
                  have y1 := cell_of_row _ _ 1 _ _ _ HQ1.out
                  have y2 := cell_of_row _ _ 2 _ _ _ HQ1.out
                  have y3 := cell_of_row _ _ 3 _ _ _ HQ1.out
                  have y4 := cell_of_row _ _ 4 _ _ _ HQ1.out
                  have y5 := cell_of_row _ _ 5 _ _ _ HQ1.out
                  have y6 := cell_of_row _ _ 6 _ _ _ HQ1.out
                  obtain ⟨WY, hWY⟩ : ∃ WY, fillP w Wq (.slice C0 q.ign.length e0) (.slice C1 q.bak.length e1') (.slice C2 q.mrg.length e2') q = WY := ⟨_, rfl⟩
                  have hfp := HXq.out.fillp (vi' := .slice C0 q.ign.length e0) (vb' := .slice C1 q.bak.length e1') (vm' := .slice C2 q.mrg.length e2') (p' := q)
                  rw [hWY] at hfp
                  have HXY := Lib.hid hfp.1
                  have HPY := Lib.hid (HQq.out.only hfp.2 HXq.out.tagp)
                  have HWY := Lib.hid (own_three HWq.out (Nat.le_refl _) hfp.2)
                  have HLY := Lib.hid (own_three HLq.out (Nat.le_refl _) hfp.2)
                  have HYW := Lib.hid (show _ = WY from hWY)
                  clear hWY hfp
                  unfold fillP at HYW
                  go_upto_region 8 with (fail)
                  rw [HYW.out]
                  clear p0 p1 p2 p3 p4 p5 p6 zz y0 y1 y2 y3 y4 y5 y6 HYW
                  go_wp2_with (fail)
                  go_roundw
                  case rel => exact ⟨k + 1, q, C0, e0, C1, e1', C2, e2', by omega, by go_num, HXY, HPY, HWY, HLY, HSQ, HI3⟩
                  case measure => simp [intOf]; omega
        · obtain rfl : k = L.length := by omega
          have k1 : ¬ (L.length : Int) < L.length := by omega
          have HRF : Hid (r = .ok p') := Lib.hid (by rw [HE.out, List.drop_length]; rfl)
          clear HE HW HL
          obtain ⟨p0, p1, p2, p3, p4, p5, p6⟩ := HX.out.cells
          obtain ⟨q0, q1, q2, q3, q4, q5, q6, q7, q8⟩ := HX.out.rcells
          have z1 := fun i => (HX.out.rsoft i).1
          have z2 := fun i => (HX.out.rsoft i).2
          obtain ⟨WZ, hWZ⟩ : ∃ WZ, fillT w wr (.slice B0 p'.ign.length d0) (.slice B1 p'.bak.length d1) (.slice B2 p'.mrg.length d2) p' [] [] = WZ := ⟨_, rfl⟩
          have HF := Lib.hid (hWZ ▸ HX.out.fill [] [])
          have HPZ : Hid (PfAtT WZ B0 d0 B1 d1 B2 d2 p') := Lib.hid (HP.out.only (hWZ ▸ (HX.out.fill [] []).2.2.2) HX.out.tags)
          have HWZ := Lib.hid (show _ = WZ from hWZ)
          clear hWZ
          unfold fillT at HWZ
          go_wp2_with (fail)
          rw [HWZ.out]
          refine bodyPost_ret (results_rows_tmp Tryd.results15 _ WZ (w.heap.size + 1) (w.heap.size + 1 + 1) 27 29 _ _ (0, 0) (0, 0) _ _ rfl HF.out.1 Tryd.underlying27 rfl size_pf rfl HF.out.2.1 Tryd.underlying29 rfl size_txt) rfl ?_
          exact ⟨_, _, _, _, _, _, p', ⟨[], []⟩, _, rfl, HPZ.out, HF.out.2.2.1, by rw [HRF.out]; exact ⟨rfl, rfl, HSH.out⟩⟩
end Go.Proofs.YtoifnnhbejofjaaDoor
end
