/- Texts joined: PlainArch, Arch1, Arch2. -/
import Derived.Test.YtjajoiahgfafgaaGreatDoorBArchBares4
import Derived.Test.YtjajoiahgfafgaaGreatDoorBArchBares8
import Derived.Test.YtjajoiahgfafgaaGreatDoorBArchBares1
import Derived.Test.YtjajoiahgfafgaaGreatDoorBCodeBaseC2
import Derived.Shelf.Strings.SlTrimAscii
set_option linter.unusedSimpArgs false
set_option linter.unusedVariables false

/- arch: what an archive is, its bytes, as plain functions of lists. -/
section
set_option linter.unusedVariables false
namespace Go.Proofs.YtjajoiahgfafgaaGreatDoor
namespace Plain

structure Stp where
  ino : Int
  size : Int
  time : Int
deriving DecidableEq
instance : Inhabited Stp := ⟨⟨0, 0, 0⟩⟩
structure Arc where
  pair : List UInt8
  serial : Int
  tree : List Nd
  stamps : List Stp
def zeroA : Arc := ⟨[], 0, [], []⟩

def digitsS (s : List UInt8) : Bool := (s.length == 64) && s.all (fun c => digs.contains c)
def bareN (n : Nd) : Bool := (n.kind == 2) || digitsS n.data
def isBareT (t : List Nd) : Bool := treeOK t && t.all bareN
def stampOK (s : Stp) : Bool := decide (0 ≤ s.ino) && decide (0 ≤ s.size) && decide (0 ≤ s.time)
def checkA (a : Arc) : Bool := !a.pair.isEmpty && decide (a.pair.length ≤ 64) && decide (0 ≤ a.serial) && isBareT a.tree && (a.stamps.length == a.tree.length) && a.stamps.all stampOK
def bareOf (n : Nd) : Nd := if n.kind == 2 then n else { n with data := hex (sha n.data) }
def magicB : List UInt8 := [104, 97, 119, 115, 101, 114, 32, 49]
def numI (n : Int) : List UInt8 := numB n.toNat
def nodeB (x : Nd × Stp) : List UInt8 := textB x.1.path ++ (numI x.1.kind ++ (numI x.1.mode ++ (textB x.1.data ++ (numI x.2.ino ++ (numI x.2.size ++ numI x.2.time)))))
def headB (a : Arc) : List UInt8 := textB magicB ++ (textB a.pair ++ (numI a.serial ++ numB a.tree.length))
def payA (a : Arc) : List UInt8 := headB a ++ (a.tree.zip a.stamps).flatMap nodeB
def encodeA (a : Arc) : List UInt8 × Nat := if checkA a then (record (payA a), 0) else ([], 90)

theorem checkA_parts {a : Arc} (h : checkA a = true) : a.pair ≠ [] ∧ a.pair.length ≤ 64 ∧ 0 ≤ a.serial ∧ isBareT a.tree = true ∧ a.stamps.length = a.tree.length ∧ ∀ s ∈ a.stamps, 0 ≤ s.ino ∧ 0 ≤ s.size ∧ 0 ≤ s.time := by
  unfold checkA at h
  simp only [Bool.and_eq_true, decide_eq_true_eq, Bool.not_eq_true', List.isEmpty_eq_false_iff, beq_iff_eq, List.all_eq_true, stampOK] at h
  exact ⟨h.1.1.1.1.1, h.1.1.1.1.2, h.1.1.1.2, h.1.1.2, h.1.2, fun s hs => ⟨(h.2 s hs).1.1, (h.2 s hs).1.2, (h.2 s hs).2⟩⟩
/-- the bounds of a node of a tree -/
theorem node_bounds {n : Nd} (hp : pathOK n.path = true) (hr : rightN n = true) : n.path.length ≤ 400 ∧ (1 ≤ n.kind ∧ n.kind ≤ 3) ∧ (0 ≤ n.mode ∧ n.mode ≤ 511) ∧ n.data.length ≤ 65536 := by
  refine ⟨pathOK_len hp, ?_⟩
  unfold rightN at hr
  split at hr
  · simp at hr; omega
  · split at hr
    · simp at hr; rw [hr.1]; simp; omega
    · split at hr
      · simp at hr; omega
      · cases hr
theorem tree_bounds {t : List Nd} (h : treeOK t = true) : t.length ≤ 1000 ∧ ∀ n ∈ t, n.path.length ≤ 400 ∧ (1 ≤ n.kind ∧ n.kind ≤ 3) ∧ (0 ≤ n.mode ∧ n.mode ≤ 511) ∧ n.data.length ≤ 65536 := by
  obtain ⟨-, h1, h2⟩ := treeOK_srt h
  refine ⟨h1, fun n hn => ?_⟩
  obtain ⟨j, hj, rfl⟩ := List.getElem_of_mem hn
  have h3 := h2 j hj
  unfold nodeOK at h3
  simp only [Bool.and_eq_true] at h3
  rw [List.getD_eq_getElem?_getD, List.getElem?_eq_getElem hj, Option.getD_some] at h3
  exact node_bounds h3.1.1.1 h3.1.1.2
theorem bare_len {n : Nd} (hb : bareN n = true) (hr : rightN n = true) : n.data.length ≤ 64 := by
  unfold bareN digitsS at hb
  simp only [Bool.or_eq_true, beq_iff_eq, Bool.and_eq_true] at hb
  rcases hb with h | h
  · unfold rightN at hr
    rw [if_neg (by omega), if_pos h] at hr
    simp at hr
    rw [hr.1]; simp
  · omega
theorem bare_bounds {t : List Nd} (h : isBareT t = true) : t.length ≤ 1000 ∧ ∀ n ∈ t, n.path.length ≤ 400 ∧ (1 ≤ n.kind ∧ n.kind ≤ 3) ∧ (0 ≤ n.mode ∧ n.mode ≤ 511) ∧ n.data.length ≤ 64 := by
  unfold isBareT at h
  rw [Bool.and_eq_true, List.all_eq_true] at h
  obtain ⟨h1, h2⟩ := tree_bounds h.1
  refine ⟨h1, fun n hn => ⟨(h2 n hn).1, (h2 n hn).2.1, (h2 n hn).2.2.1, bare_len (h.2 n hn) ?_⟩⟩
  obtain ⟨j, hj, rfl⟩ := List.getElem_of_mem hn
  have h3 := (treeOK_srt h.1).2.2 j hj
  unfold nodeOK at h3
  simp only [Bool.and_eq_true] at h3
  rw [List.getD_eq_getElem?_getD, List.getElem?_eq_getElem hj, Option.getD_some] at h3
  exact h3.1.1.2
theorem nodeB_length (x : Nd × Stp) : (nodeB x).length ≤ 63 + x.1.path.length + x.1.data.length := by
  have h1 := textB_length x.1.path
  have h2 := textB_length x.1.data
  have h3 := numB_length x.1.kind.toNat
  have h4 := numB_length x.1.mode.toNat
  have h5 := numB_length x.2.ino.toNat
  have h6 := numB_length x.2.size.toNat
  have h7 := numB_length x.2.time.toNat
  unfold nodeB numI
  simp only [List.length_append]
  omega
theorem nodesB_length : ∀ (l : List (Nd × Stp)), (∀ x ∈ l, x.1.path.length ≤ 400 ∧ x.1.data.length ≤ 64) → (l.flatMap nodeB).length ≤ 527 * l.length
  | [], _ => by simp
  | x :: l, h => by
    have h1 := nodeB_length x
    have h2 := h x (List.mem_cons_self ..)
    have h3 := nodesB_length l (fun y hy => h y (List.mem_cons_of_mem _ hy))
    rw [List.flatMap_cons, List.length_append, List.length_cons]
    omega
theorem headB_length (a : Arc) : (headB a).length ≤ 44 + a.pair.length := by
  have h1 := textB_length magicB
  have h0 : magicB.length = 8 := rfl
  have h2 := textB_length a.pair
  have h3 := numB_length a.serial.toNat
  have h4 := numB_length a.tree.length
  unfold headB numI
  simp only [List.length_append]
  omega
theorem payA_length {a : Arc} (h : checkA a = true) : (payA a).length ≤ 1048576 := by
  obtain ⟨-, h1, h2, h3, h4, h5⟩ := checkA_parts h
  obtain ⟨h6, h7⟩ := bare_bounds h3
  have h8 := headB_length a
  have h9 := nodesB_length (a.tree.zip a.stamps) (fun x hx => by
    have := h7 x.1 (List.of_mem_zip hx).1
    exact ⟨this.1, this.2.2.2⟩)
  have h10 : (a.tree.zip a.stamps).length ≤ 1000 := by rw [List.length_zip]; omega
  unfold payA
  rw [List.length_append]
  omega

/-! ### Reading -/
def readN (st : St) : (Nd × Stp) × St :=
  let s1 := (takeR (passText 400) st).2
  let s2 := (takeR passNum s1).2
  let s3 := (takeR passNum s2).2
  let s4 := (takeR (passText 64) s3).2
  let s5 := (takeR passNum s4).2
  let s6 := (takeR passNum s5).2
  ((⟨textR 400 st, ((takeR passNum s1).1 : Nat), textR 64 s3, ((takeR passNum s2).1 : Nat)⟩, ⟨((takeR passNum s4).1 : Nat), ((takeR passNum s5).1 : Nat), ((takeR passNum s6).1 : Nat)⟩), (takeR passNum s6).2)
def readNs : Nat → St → List (Nd × Stp) × St
  | 0, st => ([], st)
  | n + 1, st => ((readN st).1 :: (readNs n (readN st).2).1, (readNs n (readN st).2).2)
/-- what the fields of a payload are -/
structure Dec where
  magic : List UInt8
  pair : List UInt8
  serial : Nat
  count : Nat
  rest : St
def readH (p : List UInt8) : Dec :=
  let s1 := (takeR (passText 8) (p, 0)).2
  let s2 := (takeR (passText 64) s1).2
  let s3 := (takeR passNum s2).2
  ⟨textR 8 (p, 0), textR 64 s1, (takeR passNum s2).1, (takeR (passCount 1000 7) s3).1, (takeR (passCount 1000 7) s3).2⟩
def arcOf (d : Dec) (l : List (Nd × Stp)) : Arc := ⟨d.pair, d.serial, l.map Prod.fst, l.map Prod.snd⟩
def doneA (d : Dec) (l : List (Nd × Stp)) (st : St) : Arc × Nat := if endR st ≠ 0 ∨ checkA (arcOf d l) = false then (zeroA, 90) else (arcOf d l, 0)
def decodeA (s : List UInt8) : Arc × Nat :=
  if (one s).2 ≠ 0 ∨ textR 8 ((one s).1, 0) ≠ magicB then (zeroA, 90)
  else doneA (readH (one s).1) (readNs (readH (one s).1).count (readH (one s).1).rest).1 (readNs (readH (one s).1).count (readH (one s).1).rest).2

theorem takeR_stuck {pass : Nat → List UInt8 → List UInt8 × Nat} {st : St} (h : st.2 ≠ 0) : takeR pass st = (0, st) := by
  obtain ⟨s, f⟩ := st; exact takeR_bad h
theorem readN_stuck {st : St} (h : st.2 ≠ 0) : (readN st).2 = st := by
  unfold readN
  simp only [takeR_stuck h]
theorem readNs_stuck {st : St} (h : st.2 ≠ 0) : ∀ n, (readNs n st).2 = st
  | 0 => rfl
  | n + 1 => by
    unfold readNs
    simp only [readN_stuck h]
    exact readNs_stuck h n
theorem readNs_length : ∀ n st, (readNs n st).1.length = n
  | 0, _ => rfl
  | n + 1, st => by unfold readNs; simp [readNs_length n]
theorem endR_bad {st : St} (h : st.2 ≠ 0) : endR st ≠ 0 := by
  unfold endR
  rw [if_neg (by simp [h])]; exact h

/-! ### What is written is read back -/
theorem takeR_text {t R : List UInt8} {most : Int} (hn : t.length < 9223372036854775808) (hm : (t.length : Int) ≤ most) : takeR (passText most) (textB t ++ R, 0) = (t.length, (R, 0)) := by
  unfold textB
  rw [List.append_assoc]
  refine takeR_ok (numR_numB hn _) ?_
  unfold passText
  rw [if_neg (by omega), if_neg (by rw [List.length_append]; omega)]; simp
theorem textR_text {t R : List UInt8} {most : Int} (hn : t.length < 9223372036854775808) (hm : (t.length : Int) ≤ most) : textR most (textB t ++ R, 0) = t := by
  have hp : passText most t.length (t ++ R) = (R, 0) := by
    unfold passText
    rw [if_neg (by omega), if_neg (by rw [List.length_append]; omega)]; simp
  unfold textB
  rw [List.append_assoc]
  simp [textR, numR_numB hn, hp]
theorem takeR_numI {n : Int} (h : 0 ≤ n) (h2 : n < 9223372036854775808) (R : List UInt8) : takeR passNum (numI n ++ R, 0) = (n.toNat, (R, 0)) := back_num (by omega) R

/-- a node's numbers, as they can be written -/
def Fits (x : Nd × Stp) : Prop := x.1.path.length ≤ 400 ∧ x.1.data.length ≤ 64 ∧ (0 ≤ x.1.kind ∧ x.1.kind < 9223372036854775808) ∧ (0 ≤ x.1.mode ∧ x.1.mode < 9223372036854775808) ∧ (0 ≤ x.2.ino ∧ x.2.ino < 9223372036854775808) ∧ (0 ≤ x.2.size ∧ x.2.size < 9223372036854775808) ∧ (0 ≤ x.2.time ∧ x.2.time < 9223372036854775808)
theorem readN_back {x : Nd × Stp} (h : Fits x) (R : List UInt8) : readN (nodeB x ++ R, 0) = (x, (R, 0)) := by
  obtain ⟨⟨p, k, d, m⟩, ⟨i, s, t⟩⟩ := x
  obtain ⟨h1, h2, ⟨h3, h3'⟩, ⟨h4, h4'⟩, ⟨h5, h5'⟩, ⟨h6, h6'⟩, ⟨h7, h7'⟩⟩ := h
  simp only at h1 h2 h3 h3' h4 h4' h5 h5' h6 h6' h7 h7'
  unfold nodeB
  simp only [List.append_assoc]
  unfold readN
  simp only
  rw [takeR_text (by omega) (by omega), textR_text (by omega) (by omega)]
  simp only
  rw [takeR_numI h3 h3']
  simp only
  rw [takeR_numI h4 h4']
  simp only
  rw [takeR_text (by omega) (by omega), textR_text (by omega) (by omega)]
  simp only
  rw [takeR_numI h5 h5']
  simp only
  rw [takeR_numI h6 h6']
  simp only
  rw [takeR_numI h7 h7']
  simp only
  rw [Int.toNat_of_nonneg h3, Int.toNat_of_nonneg h4, Int.toNat_of_nonneg h5, Int.toNat_of_nonneg h6, Int.toNat_of_nonneg h7]
theorem readNs_back : ∀ (l : List (Nd × Stp)) (R : List UInt8), (∀ x ∈ l, Fits x) → readNs l.length (l.flatMap nodeB ++ R, 0) = (l, (R, 0))
  | [], R, _ => rfl
  | x :: l, R, h => by
    rw [List.flatMap_cons, List.append_assoc, List.length_cons]
    unfold readNs
    rw [readN_back (h x (List.mem_cons_self ..)), readNs_back l R (fun y hy => h y (List.mem_cons_of_mem _ hy))]
theorem nodeB_pos (x : Nd × Stp) : 7 ≤ (nodeB x).length := by
  have h1 := numB_pos x.1.path.length
  have h2 := numB_pos x.1.data.length
  have h3 := numB_pos x.1.kind.toNat
  have h4 := numB_pos x.1.mode.toNat
  have h5 := numB_pos x.2.ino.toNat
  have h6 := numB_pos x.2.size.toNat
  have h7 := numB_pos x.2.time.toNat
  unfold nodeB numI textB
  simp only [List.length_append]
  omega
theorem nodesB_pos : ∀ l : List (Nd × Stp), 7 * l.length ≤ (l.flatMap nodeB).length
  | [] => by simp
  | x :: l => by
    have h1 := nodeB_pos x
    have h2 := nodesB_pos l
    rw [List.flatMap_cons, List.length_append, List.length_cons]; omega
/-- an archive's numbers are the machine's -/
def Small (a : Arc) : Prop := a.serial < 9223372036854775808 ∧ ∀ s ∈ a.stamps, s.ino < 9223372036854775808 ∧ s.size < 9223372036854775808 ∧ s.time < 9223372036854775808
theorem zip_fits {a : Arc} (h : checkA a = true) (hs : Small a) : ∀ x ∈ a.tree.zip a.stamps, Fits x := by
  obtain ⟨-, h1, h2, h3, h4, h5⟩ := checkA_parts h
  obtain ⟨h6, h7⟩ := bare_bounds h3
  intro x hx
  have e1 := h7 x.1 (List.of_mem_zip hx).1
  have e2 := h5 x.2 (List.of_mem_zip hx).2
  have e3 := hs.2 x.2 (List.of_mem_zip hx).2
  exact ⟨e1.1, e1.2.2.2, ⟨by omega, by omega⟩, ⟨by omega, by omega⟩, ⟨by omega, by omega⟩, ⟨by omega, by omega⟩, ⟨by omega, by omega⟩⟩
theorem zip_fst {α β : Type} (l : List α) (k : List β) (h : k.length = l.length) : (l.zip k).map Prod.fst = l := by rw [List.map_fst_zip]; omega
theorem zip_snd {α β : Type} (l : List α) (k : List β) (h : k.length = l.length) : (l.zip k).map Prod.snd = k := by rw [List.map_snd_zip]; omega
theorem readH_back {a : Arc} (h : checkA a = true) (hs : Small a) : readH (payA a) = ⟨magicB, a.pair, a.serial.toNat, a.tree.length, ((a.tree.zip a.stamps).flatMap nodeB, 0)⟩ := by
  obtain ⟨-, h1, h2, h3, h4, h5⟩ := checkA_parts h
  obtain ⟨h6, h7⟩ := bare_bounds h3
  have h0 : magicB.length = 8 := rfl
  unfold readH payA headB
  simp only [List.append_assoc]
  rw [takeR_text (by omega) (by omega), textR_text (by omega) (by omega)]
  simp only
  rw [takeR_text (by omega) (by omega), textR_text (by omega) (by omega)]
  simp only
  rw [takeR_numI h2 hs.1]
  simp only
  have hc : takeR (passCount 1000 7) (numB a.tree.length ++ (a.tree.zip a.stamps).flatMap nodeB, 0) = (a.tree.length, ((a.tree.zip a.stamps).flatMap nodeB, 0)) := by
    refine takeR_ok (numR_numB (by omega) _) ?_
    have hp := nodesB_pos (a.tree.zip a.stamps)
    rw [List.length_zip, h4, Nat.min_self] at hp
    unfold passCount
    rw [if_neg (by omega), if_neg (by
      rw [show (max (7 : Int) 1).toNat = 7 from rfl]
      rw [Nat.not_lt, Nat.le_div_iff_mul_le (by omega)]; omega)]
  rw [hc]
theorem decode_back {a : Arc} (h : checkA a = true) (hs : Small a) : decodeA (record (payA a)) = (a, 0) := by
  obtain ⟨-, h1, h2, h3, h4, h5⟩ := checkA_parts h
  have hone := one_record (payA a) (payA_length h)
  have hrh := readH_back h hs
  have hm : textR 8 (payA a, 0) = magicB := by have := congrArg Dec.magic hrh; exact this
  have hns := readNs_back (a.tree.zip a.stamps) [] (zip_fits h hs)
  rw [List.append_nil, List.length_zip, h4, Nat.min_self] at hns
  unfold decodeA
  rw [hone]
  simp only
  rw [hm, hrh]
  simp only [ne_eq, not_true_eq_false, or_self, if_false]
  rw [hns]
  simp only
  have harc : arcOf ⟨magicB, a.pair, a.serial.toNat, a.tree.length, ((a.tree.zip a.stamps).flatMap nodeB, 0)⟩ (a.tree.zip a.stamps) = a := by
    unfold arcOf
    simp only
    rw [zip_fst _ _ h4, zip_snd _ _ h4, Int.toNat_of_nonneg h2]
  unfold doneA
  rw [harc, h]
  simp [endR]
/-- two archives of the same bytes are the same -/
theorem record_inj {p q : List UInt8} (hp : p.length ≤ 1048576) (hq : q.length ≤ 1048576) (h : record p = record q) : p = q := by
  have h1 := one_record p hp
  rw [h, one_record q hq] at h1
  injection h1 with h1 _
  exact h1.symm
theorem pay_inj {a b : Arc} (ha : checkA a = true) (hb : checkA b = true) (sa : Small a) (sb : Small b) (h : record (payA a) = record (payA b)) : a = b := by
  have h1 := decode_back ha sa
  rw [h, decode_back hb sb] at h1
  injection h1 with h1 _
  exact h1.symm

/-! ### What is read is written back -/
theorem step_text' {most : Int} {s : List UInt8} (h : (takeR (passText most) (s, 0)).2.2 = 0) : s = textB (textR most (s, 0)) ++ (takeR (passText most) (s, 0)).2.1 := by
  rcases (step_text most s).1 with h1 | h1
  · exact absurd h h1.1
  · exact h1.2.1
theorem step_num' {s : List UInt8} (h : (takeR passNum (s, 0)).2.2 = 0) : s = numB (takeR passNum (s, 0)).1 ++ (takeR passNum (s, 0)).2.1 := by
  rcases (step_num s).1 with h1 | h1
  · exact absurd h h1.1
  · exact h1.2.1
theorem step_count' {most least : Int} {s : List UInt8} (h : (takeR (passCount most least) (s, 0)).2.2 = 0) : s = numB (takeR (passCount most least) (s, 0)).1 ++ (takeR (passCount most least) (s, 0)).2.1 := by
  rcases (step_count most least s).1 with h1 | h1
  · exact absurd h h1.1
  · exact h1.2.1
theorem good_ahead {pass : Nat → List UInt8 → List UInt8 × Nat} {st : St} (h : (takeR pass st).2.2 = 0) : st.2 = 0 := by
  by_cases e : st.2 = 0
  · exact e
  · rw [takeR_stuck e] at h; exact absurd h e
theorem pair_of {st : St} (h : st.2 = 0) : st = (st.1, 0) := by rw [← h]
theorem readN_wrote {st : St} (h : (readN st).2.2 = 0) : st.2 = 0 ∧ st.1 = nodeB (readN st).1 ++ (readN st).2.1 := by
  obtain ⟨s, f⟩ := st
  unfold readN at h ⊢
  simp only at h ⊢
  have g6 := good_ahead h
  have g5 := good_ahead g6
  have g4 := good_ahead g5
  have g3 := good_ahead g4
  have g2 := good_ahead g3
  have g1 := good_ahead g2
  have g0 := good_ahead g1
  simp only at g0
  subst g0
  refine ⟨rfl, ?_⟩
  generalize hs1 : (takeR (passText 400) (s, 0)).2 = s1 at *
  generalize hs2 : (takeR passNum s1).2 = s2 at *
  generalize hs3 : (takeR passNum s2).2 = s3 at *
  generalize hs4 : (takeR (passText 64) s3).2 = s4 at *
  generalize hs5 : (takeR passNum s4).2 = s5 at *
  generalize hs6 : (takeR passNum s5).2 = s6 at *
  obtain ⟨s1, f1⟩ := s1
  obtain ⟨s2, f2⟩ := s2
  obtain ⟨s3, f3⟩ := s3
  obtain ⟨s4, f4⟩ := s4
  obtain ⟨s5, f5⟩ := s5
  obtain ⟨s6, f6⟩ := s6
  simp only at g1 g2 g3 g4 g5 g6
  subst g1 g2 g3 g4 g5 g6
  have e0 := step_text' (most := 400) (s := s) (by rw [hs1])
  have e1 := step_num' (s := s1) (by rw [hs2])
  have e2 := step_num' (s := s2) (by rw [hs3])
  have e3 := step_text' (most := 64) (s := s3) (by rw [hs4])
  have e4 := step_num' (s := s4) (by rw [hs5])
  have e5 := step_num' (s := s5) (by rw [hs6])
  have e6 := step_num' (s := s6) h
  rw [hs1] at e0; rw [hs2] at e1; rw [hs3] at e2; rw [hs4] at e3; rw [hs5] at e4; rw [hs6] at e5
  unfold nodeB numI
  simp only [List.append_assoc, Int.toNat_natCast]
  conv => lhs; rw [e0]
  simp only
  congr 1
  conv => lhs; rw [e1]
  simp only
  congr 1
  conv => lhs; rw [e2]
  simp only
  congr 1
  conv => lhs; rw [e3]
  simp only
  congr 1
  conv => lhs; rw [e4]
  simp only
  congr 1
  conv => lhs; rw [e5]
  simp only
  congr 1
theorem readNs_wrote : ∀ (n : Nat) (st : St), (readNs n st).2.2 = 0 → st.2 = 0 ∧ st.1 = (readNs n st).1.flatMap nodeB ++ (readNs n st).2.1
  | 0, st, h => ⟨h, rfl⟩
  | n + 1, st, h => by
    unfold readNs at h ⊢
    obtain ⟨h1, h2⟩ := readNs_wrote n _ h
    obtain ⟨h3, h4⟩ := readN_wrote h1
    refine ⟨h3, ?_⟩
    rw [List.flatMap_cons, List.append_assoc, ← h2]
    exact h4
theorem readH_wrote {p : List UInt8} (h : (readH p).rest.2 = 0) : p = textB (readH p).magic ++ (textB (readH p).pair ++ (numB (readH p).serial ++ (numB (readH p).count ++ (readH p).rest.1))) := by
  unfold readH at h ⊢
  simp only at h ⊢
  have g3 := good_ahead h
  have g2 := good_ahead g3
  have g1 := good_ahead g2
  generalize hs1 : (takeR (passText 8) (p, 0)).2 = s1 at *
  generalize hs2 : (takeR (passText 64) s1).2 = s2 at *
  generalize hs3 : (takeR passNum s2).2 = s3 at *
  obtain ⟨s1, f1⟩ := s1
  obtain ⟨s2, f2⟩ := s2
  obtain ⟨s3, f3⟩ := s3
  simp only at g1 g2 g3
  subst g1 g2 g3
  have e0 := step_text' (most := 8) (s := p) (by rw [hs1])
  have e1 := step_text' (most := 64) (s := s1) (by rw [hs2])
  have e2 := step_num' (s := s2) (by rw [hs3])
  have e3 := step_count' (most := 1000) (least := 7) (s := s3) h
  rw [hs1] at e0; rw [hs2] at e1; rw [hs3] at e2
  conv => lhs; rw [e0]
  simp only
  congr 1
  conv => lhs; rw [e1]
  simp only
  congr 1
  conv => lhs; rw [e2]
  simp only
  congr 1
theorem zip_parts {α β : Type} : ∀ l : List (α × β), (l.map Prod.fst).zip (l.map Prod.snd) = l
  | [] => rfl
  | x :: l => by simp [zip_parts l]
theorem endR_zero {st : St} (h : endR st = 0) : st.1 = [] ∧ st.2 = 0 := by
  unfold endR at h
  by_cases h1 : st.2 = 0 ∧ st.1 ≠ []
  · rw [if_pos h1] at h; cases h
  · rw [if_neg h1] at h
    refine ⟨?_, h⟩
    exact Classical.byContradiction fun e => h1 ⟨h, e⟩
theorem one_wrote {s : List UInt8} (h : (one s).2 = 0) : s = record (one s).1 ∧ (one s).1.length ≤ 1048576 := by
  unfold one at h ⊢
  by_cases h1 : (next s).2.1 ≠ []
  · rw [if_pos h1] at h; cases h
  · rw [if_neg h1] at h ⊢
    have h2 := record_of_next s h
    simp only [ne_eq, Decidable.not_not] at h1
    rw [h1, List.append_nil] at h2
    exact h2
theorem wrote_pay {s p : List UInt8} {d : Dec} {l : List (Nd × Stp)} (h1 : s = record p) (h2 : p = textB d.magic ++ (textB d.pair ++ (numB d.serial ++ (numB d.count ++ l.flatMap nodeB)))) (h3 : d.magic = magicB) (h4 : l.length = d.count) :
    s = record (payA (arcOf d l)) := by
  rw [h1, h2, h3]
  congr 1
  unfold payA headB arcOf numI
  simp only [List.append_assoc, Int.toNat_natCast, List.length_map, h4]
  rw [zip_parts]
theorem decode_wrote {s : List UInt8} {a : Arc} (h : decodeA s = (a, 0)) : checkA a = true ∧ s = record (payA a) := by
  unfold decodeA at h
  split at h
  · simp at h
  · rename_i h1
    simp only [ne_eq, not_or, Decidable.not_not] at h1
    obtain ⟨h1, h2⟩ := h1
    unfold doneA at h
    split at h
    · simp at h
    · rename_i h3
      simp only [ne_eq, not_or, Decidable.not_not, Bool.not_eq_false] at h3
      have h4 := (Prod.mk.inj h).1
      rw [h4] at h3
      refine ⟨h3.2, ?_⟩
      obtain ⟨e1, e2⟩ := endR_zero h3.1
      have h5 := readNs_wrote _ _ e2
      rw [e1, List.append_nil] at h5
      have h6 := readH_wrote h5.1
      rw [h5.2] at h6
      have hl := readNs_length (readH (one s).1).count (readH (one s).1).rest
      have h9 := one_wrote h1
      have hm : (readH (one s).1).magic = magicB := h2
      rw [← h4]
      exact wrote_pay h9.1 h6 hm hl

theorem decode_turned {a : Arc} (h : checkA a = true) (pre suf : List UInt8) {c d : UInt8} (hne : c ≠ d) (he : record (payA a) = pre ++ c :: suf) : (one (pre ++ d :: suf)).2 ≠ 0 := (one_turned (payA a) (payA_length h) pre suf hne he).2
end Plain
end Go.Proofs.YtjajoiahgfafgaaGreatDoor
end

/- arch: digits, IsBare, Check. -/
section
set_option linter.unusedVariables false
namespace Go.Proofs.YtjajoiahgfafgaaGreatDoor
open Go.RowKit Plain

namespace Plain
theorem dropWhile_nil {p : UInt8 → Bool} : ∀ l : List UInt8, l.dropWhile p = [] ↔ l.all p = true
  | [] => by simp
  | x :: l => by
    rw [List.dropWhile_cons]
    cases h : p x with
    | true => rw [if_pos rfl, List.all_cons, h, Bool.true_and]; exact dropWhile_nil l
    | false => simp [h]
theorem takeWhile_dropWhile_all {p : UInt8 → Bool} (l : List UInt8) (h : (l.dropWhile p).all p = true) : l.all p = true := by
  have h1 := List.takeWhile_append_dropWhile (p := p) (l := l)
  rw [← h1, List.all_append, h, Bool.and_true]
  rw [List.all_eq_true]
  intro x hx
  exact List.all_eq_true.1 (List.all_takeWhile (p := p) (l := l)) x hx
theorem trim_nil (l cs : List UInt8) : Lib.trimS l cs = [] ↔ l.all (fun c => cs.contains c) = true := by
  unfold Lib.trimS Lib.trimLeftS Lib.trimRightS
  rw [dropWhile_nil, List.all_reverse]
  constructor
  · intro h
    have := takeWhile_dropWhile_all _ h
    rwa [List.all_reverse] at this
  · intro h
    have : l.reverse.dropWhile (fun c => cs.contains c) = [] := by rw [dropWhile_nil, List.all_reverse]; exact h
    rw [this]; rfl
end Plain

theorem Trim_any (s cs : List UInt8) (w : World) (hs : s.length ≤ 9223372036854775807) (hc : cs.length < 4294967281) (ha : cs.all (fun b => decide (b.toNat < 128)) = true) :
    Calls Tryz.prog 86 #[.string ⟨s.toArray⟩, .string ⟨cs.toArray⟩] w (Ret w (.string ⟨(Lib.trimS s cs).toArray⟩)) :=
  Any.strings_Trim_laid Tryz.lays160 (by kernel_rfl) ⟨s.toArray⟩ ⟨cs.toArray⟩ w (by simpa [ByteArray.size] using hs) (by simpa [ByteArray.size] using hc) (ascii_of_all ha)

set_option maxHeartbeats 1000000 in
set_option maxRecDepth 100000 in
theorem digits_any (s : List UInt8) (w : World) (hs : s.length ≤ 9223372036854775807) : Calls Tryz.prog 51 #[.string ⟨s.toArray⟩] w (Ret w (.bool (digitsS s))) := by
  have HT := Lib.hid (fun W => Trim_any s digs W hs (by decide) (by decide))
  unfold digitsS
  have HN : Hid ((Lib.trimS s digs).isEmpty = s.all (fun c => digs.contains c)) := Lib.hid (by rw [Bool.eq_iff_iff, ← trim_nil s digs, List.isEmpty_iff])
  by_cases h : s.length = 64
  · have h1 : ((s.length : Int) == 64) = true := by rw [beq_iff_eq]; omega
    have h2 : (s.length == 64) = true := by rw [beq_iff_eq]; exact h
    rw [h2, Bool.true_and]
    clear h h2
    go_enter Tryz.func51, Tryz.ntmps51
    go_wp2_with (go_at_call 86; refine (HT.out _).mono ?_; rintro e w1 ⟨rfl, hw1⟩)
    go_ret
    exact ⟨by rw [← HN.out]; rfl, hw1⟩
  · have h1 : ((s.length : Int) == 64) = false := by rw [beq_eq_false_iff_ne]; omega
    have h2 : (s.length == 64) = false := by rw [beq_eq_false_iff_ne]; exact h
    rw [h2, Bool.false_and]
    clear h h2
    go_enter Tryz.func51, Tryz.ntmps51
    go_wp2_with (fail)
    go_ret
    exact ⟨rfl, Below.refl _ _⟩

set_option maxHeartbeats 1000000 in
set_option maxRecDepth 100000 in
theorem odd_any (n : Nd) (w : World) (hd : n.data.length ≤ 9223372036854775807) : Calls Tryz.prog 50 #[.agg (ndV n).toArray] w (Ret w (.bool (!bareN n))) := by
  obtain ⟨p, k, d, m⟩ := n
  unfold bareN ndV
  simp only at hd ⊢
  have HD := Lib.hid (fun W => digits_any d W hd)
  by_cases hk : k = 2
  · subst hk
    go_enter Tryz.func50, Tryz.ntmps50
    go_wp2_with (fail)
    go_ret
    exact ⟨rfl, (Below.refl _ _).alloc (Nat.le_refl _) _⟩
  · have hk2 : (k == 2) = false := by simpa using hk
    rw [hk2, Bool.false_or]
    generalize digitsS d = b at *
    go_enter Tryz.func50, Tryz.ntmps50
    go_wp2_with (go_at_call 51; refine (HD.out _).mono ?_; rintro e w1 ⟨rfl, hw1⟩)
    go_ret
    exact ⟨by first | rfl | simp [hk], ((Below.refl _ _).alloc (Nat.le_refl _) _).trans (hw1.mono (by simp))⟩

namespace Plain
theorem any_at {α : Type} [Inhabited α] {p : α → Bool} {l : List α} {i : Nat} (h : i < l.length) : (l.drop i).any p = (p (l.getD i default) || (l.drop (i + 1)).any p) := by
  rw [List.drop_eq_getElem_cons h, List.any_cons, List.getD_eq_getElem?_getD, List.getElem?_eq_getElem h, Option.getD_some]
theorem any_end {α : Type} {p : α → Bool} {l : List α} : (l.drop l.length).any p = false := by simp
theorem all_not_any {α : Type} {p : α → Bool} (l : List α) : l.all p = !l.any (fun x => !p x) := by
  rw [Bool.eq_iff_iff]; simp
end Plain
/-- a stamp's cells -/
def stV (s : Stp) : List Value := [.int .i64 s.ino, .int .i64 s.size, .int .i64 s.time]
theorem stps_at {w : World} {A : Option Addr} {t : List Stp} (h : IsRows w 3 A (t.map stV)) {i : Nat} (hi : i < t.length) : ∃ ad, A = some ad ∧ ∀ j u, (stV (t.getD i default))[j]? = some u → w.cell? (ad.add (i * 3 + j)) = some u := by
  obtain ⟨ad, e, hc⟩ := h i (by simpa using hi)
  refine ⟨ad, e, fun j u hu => hc j u ?_⟩
  rw [List.getElem_map]
  rw [List.getD_eq_getElem?_getD, List.getElem?_eq_getElem hi, Option.getD_some] at hu
  exact hu
theorem stp_cells {w : World} {A : Option Addr} {t : List Stp} (h : IsRows w 3 A (t.map stV)) {i : Nat} (hi : i < t.length) : ∃ ad, A = some ad ∧ w.cell? (ad.add (i * 3)) = some (.int .i64 (t.getD i default).ino) ∧
    w.cell? ⟨(ad.add (i * 3)).block, (ad.add (i * 3)).off + 1, none⟩ = some (.int .i64 (t.getD i default).size) ∧ w.cell? ⟨(ad.add (i * 3)).block, (ad.add (i * 3)).off + 2, none⟩ = some (.int .i64 (t.getD i default).time) := by
  obtain ⟨ad, e, hc⟩ := stps_at h hi
  have key : ∀ j u, j ≠ 0 → (stV (t.getD i default))[j]? = some u → w.cell? ⟨(ad.add (i * 3)).block, (ad.add (i * 3)).off + j, none⟩ = some u := fun j u hj hu => by
    have := hc j u hu
    rw [← add_of_add] at this
    conv at this => lhs; rw [Addr.add, if_neg hj]
    exact this
  exact ⟨ad, e, hc 0 _ rfl, key 1 _ (by omega) rfl, key 2 _ (by omega) rfl⟩

set_option maxHeartbeats 1000000 in
set_option maxRecDepth 100000 in
theorem oddS_any (s : Stp) (w : World) : Calls Tryz.prog 42 #[.agg (stV s).toArray] w (Ret w (.bool (!stampOK s))) := by
  obtain ⟨i, z, t⟩ := s
  unfold stampOK stV
  simp only
  have hb := ((Below.refl w.heap.size w).alloc (Nat.le_refl _) (.cells #[.int .i64 i, .int .i64 z, .int .i64 t] 55))
  have e : ∀ n : Int, decide (0 ≤ n) = !decide (n < 0) := fun n => by rw [Bool.eq_iff_iff]; simp
  rw [e, e, e]
  have HE := Lib.hid e
  clear e
  cases h1 : decide (i < 0) <;> cases h2 : decide (z < 0) <;> cases h3 : decide (t < 0)
  all_goals
    go_enter Tryz.func42, Tryz.ntmps42
    go_wp2_with (fail)
    go_ret
    exact ⟨rfl, hb⟩

set_option maxHeartbeats 1000000 in
set_option maxRecDepth 100000 in
theorem indexNode_any (t : List Nd) (A : Option Addr) (c : Nat) (w : World) (hR : IsRows w 4 A (t.map ndV)) (hl : t.length ≤ 9223372036854775807) (hd : ∀ n ∈ t, n.data.length ≤ 9223372036854775807) :
    Calls Tryz.prog 87 #[.slice A t.length c, .func (.func 50) #[] #[]] w fun e w' => ∃ r : Int, e = .returned (.int .i64 r) ∧ decide (0 ≤ r) = t.any (fun n => !bareN n) ∧ Below w.heap.size w w' := by
  have HR := Lib.hid (fun W (h : Below w.heap.size w W) => hR.below h)
  have HO := Lib.hid (fun n (h : n ∈ t) W => odd_any n W (hd n h))
  obtain ⟨res, hres⟩ : ∃ r, t.any (fun n => !bareN n) = r := ⟨_, rfl⟩
  have HRES := Lib.hid (show (t.drop 0).any (fun n => !bareN n) = res from hres)
  rw [hres]
  clear hR hres hd
  go_enter Tryz.func87, Tryz.ntmps87
  go_wp2_with (fail)
  go_loopw [8] (fun t8 W => ∃ (i : Nat), i ≤ t.length ∧ t8 = .int .i64 i ∧ Hid ((t.drop i).any (fun n => !bareN n) = res) ∧ Hid (Below w.heap.size w W)) (fun t8 _ => t.length - (intOf t8).toNat)
  case atStart => exact ⟨0, by omega, rfl, HRES, Lib.hid (Below.refl _ _)⟩
  case round =>
    clear HRES
    obtain ⟨i, hi, rfl, HE, HW⟩ := hrel
    have i0 : (0 : Int) ≤ i := by omega
    by_cases hlt : i < t.length
    · have i1 : (i : Int) < t.length := by omega
      have e1 : IntKind.i64.wrap ((i : Int) + 1) = (i : Int) + 1 := IntWalk.i64_in _ (by omega)
      obtain ⟨ad, rfl, c0, c1, c2, c3⟩ := node_cells (HR.out _ HW.out) hlt
      have hat := any_at (p := fun n => !bareN n) hlt
      rw [HE.out] at hat
      have HC := Lib.hid (HO.out (t.getD i default) (mem_getD hlt))
      generalize t.getD i default = x at *
      cases hb : (!bareN x) with
      | true =>
        rw [hb] at hat HC
        have HRF := Lib.hid (show res = true by rw [hat, Bool.true_or])
        clear hat hb
        go_wp2_with (go_at_call 50; refine (HC.out _).mono ?_; rintro e w1 ⟨rfl, hw1⟩)
        go_ret
        exact ⟨_, rfl, by rw [HRF.out]; exact decide_eq_true i0, HW.out.trans (hw1.mono HW.out.size)⟩
      | false =>
        rw [hb] at hat HC
        have HRF := Lib.hid (show (t.drop (i + 1)).any (fun n => !bareN n) = res by rw [hat, Bool.false_or])
        clear hat hb
        go_wp2_with (go_at_call 50; refine (HC.out _).mono ?_; rintro e w1 ⟨rfl, hw1⟩)
        go_roundw
        case rel => exact ⟨i + 1, by omega, by go_num, HRF, Lib.hid (HW.out.trans (hw1.mono HW.out.size))⟩
        case measure => simp [intOf]; omega
    · obtain rfl : i = t.length := by omega
      have i1 : decide ((t.length : Int) < (t.length : Int)) = false := by rw [decide_eq_false_iff_not]; omega
      have HE2 := Lib.hid (show res = false by rw [← HE.out, any_end])
      go_wp2_with (fail)
      go_ret
      exact ⟨_, rfl, by rw [HE2.out]; rfl, HW.out⟩

set_option maxHeartbeats 1000000 in
set_option maxRecDepth 100000 in
theorem containsNode_any (t : List Nd) (A : Option Addr) (c : Nat) (w : World) (hR : IsRows w 4 A (t.map ndV)) (hl : t.length ≤ 9223372036854775807) (hd : ∀ n ∈ t, n.data.length ≤ 9223372036854775807) :
    Calls Tryz.prog 52 #[.slice A t.length c, .func (.func 50) #[] #[]] w (Ret w (.bool (t.any (fun n => !bareN n)))) := by
  have HI := Lib.hid (indexNode_any t A c w hR hl hd)
  generalize t.any (fun n => !bareN n) = res at *
  clear hR
  go_enter Tryz.func52, Tryz.ntmps52
  go_wp2_with (go_at_call 87; refine HI.out.mono ?_; rintro e w1 ⟨r, rfl, hr, hw1⟩)
  go_ret
  exact ⟨by rw [← hr]; rfl, hw1⟩

set_option maxHeartbeats 1000000 in
set_option maxRecDepth 100000 in
theorem indexStamp_any (t : List Stp) (A : Option Addr) (c : Nat) (w : World) (hR : IsRows w 3 A (t.map stV)) (hl : t.length ≤ 9223372036854775807) :
    Calls Tryz.prog 70 #[.slice A t.length c, .func (.func 42) #[] #[]] w fun e w' => ∃ r : Int, e = .returned (.int .i64 r) ∧ decide (0 ≤ r) = t.any (fun n => !stampOK n) ∧ Below w.heap.size w w' := by
  have HR := Lib.hid (fun W (h : Below w.heap.size w W) => hR.below h)
  have HO := Lib.hid (fun s W => oddS_any s W)
  obtain ⟨res, hres⟩ : ∃ r, t.any (fun n => !stampOK n) = r := ⟨_, rfl⟩
  have HRES := Lib.hid (show (t.drop 0).any (fun n => !stampOK n) = res from hres)
  rw [hres]
  clear hR hres
  go_enter Tryz.func70, Tryz.ntmps70
  go_wp2_with (fail)
  go_loopw [8] (fun t8 W => ∃ (i : Nat), i ≤ t.length ∧ t8 = .int .i64 i ∧ Hid ((t.drop i).any (fun n => !stampOK n) = res) ∧ Hid (Below w.heap.size w W)) (fun t8 _ => t.length - (intOf t8).toNat)
  case atStart => exact ⟨0, by omega, rfl, HRES, Lib.hid (Below.refl _ _)⟩
  case round =>
    clear HRES
    obtain ⟨i, hi, rfl, HE, HW⟩ := hrel
    have i0 : (0 : Int) ≤ i := by omega
    by_cases hlt : i < t.length
    · have i1 : (i : Int) < t.length := by omega
      have e1 : IntKind.i64.wrap ((i : Int) + 1) = (i : Int) + 1 := IntWalk.i64_in _ (by omega)
      obtain ⟨ad, rfl, c0, c1, c2⟩ := stp_cells (HR.out _ HW.out) hlt
      have hat := any_at (p := fun n => !stampOK n) hlt
      rw [HE.out] at hat
      have HC := Lib.hid (HO.out (t.getD i default))
      generalize t.getD i default = x at *
      cases hb : (!stampOK x) with
      | true =>
        rw [hb] at hat HC
        have HRF := Lib.hid (show res = true by rw [hat, Bool.true_or])
        clear hat hb
        go_wp2_with (go_at_call 42; refine (HC.out _).mono ?_; rintro e w1 ⟨rfl, hw1⟩)
        go_ret
        exact ⟨_, rfl, by rw [HRF.out]; exact decide_eq_true i0, HW.out.trans (hw1.mono HW.out.size)⟩
      | false =>
        rw [hb] at hat HC
        have HRF := Lib.hid (show (t.drop (i + 1)).any (fun n => !stampOK n) = res by rw [hat, Bool.false_or])
        clear hat hb
        go_wp2_with (go_at_call 42; refine (HC.out _).mono ?_; rintro e w1 ⟨rfl, hw1⟩)
        go_roundw
        case rel => exact ⟨i + 1, by omega, by go_num, HRF, Lib.hid (HW.out.trans (hw1.mono HW.out.size))⟩
        case measure => simp [intOf]; omega
    · obtain rfl : i = t.length := by omega
      have i1 : decide ((t.length : Int) < (t.length : Int)) = false := by rw [decide_eq_false_iff_not]; omega
      have HE2 := Lib.hid (show res = false by rw [← HE.out, any_end])
      go_wp2_with (fail)
      go_ret
      exact ⟨_, rfl, by rw [HE2.out]; rfl, HW.out⟩

set_option maxHeartbeats 1000000 in
set_option maxRecDepth 100000 in
theorem containsStamp_any (t : List Stp) (A : Option Addr) (c : Nat) (w : World) (hR : IsRows w 3 A (t.map stV)) (hl : t.length ≤ 9223372036854775807) :
    Calls Tryz.prog 43 #[.slice A t.length c, .func (.func 42) #[] #[]] w (Ret w (.bool (t.any (fun n => !stampOK n)))) := by
  have HI := Lib.hid (indexStamp_any t A c w hR hl)
  generalize t.any (fun n => !stampOK n) = res at *
  clear hR
  go_enter Tryz.func43, Tryz.ntmps43
  go_wp2_with (go_at_call 70; refine HI.out.mono ?_; rintro e w1 ⟨r, rfl, hr, hw1⟩)
  go_ret
  exact ⟨by rw [← hr]; rfl, hw1⟩

set_option maxHeartbeats 1000000 in
set_option maxRecDepth 100000 in
theorem isBare_any (t : List Nd) (A : Option Addr) (c : Nat) (m : Int) (w : World) (hL : Laid w m) (hR : IsRows w 4 A (t.map ndV)) (hc : t.length ≤ c) (hlen : t.length ≤ 9223372036854775807) (hp : ∀ n ∈ t, n.path.length ≤ 9223372036854775807 ∧ n.data.length ≤ 9223372036854775807) :
    Calls Tryz.prog 20 #[.slice A t.length c] w (Ret w (.bool (isBareT t))) := by
  have HT := Lib.hid (tcheck_any t A c m w hL hR hc hlen hp)
  have HC := Lib.hid (fun W (h : Below w.heap.size w W) => containsNode_any t A c W (hR.below h) hlen (fun n hn => (hp n hn).2))
  clear hL hR hp
  unfold isBareT
  rw [all_not_any]
  generalize t.any (fun n => !bareN n) = b at *
  generalize treeOK t = b1 at *
  cases b1 with
  | true =>
    have HT1 : Hid (Calls Tryz.prog 44 #[.slice A t.length c] w (Ret w (.int .i64 0))) := HT
    clear HT
    rw [Bool.true_and]
    go_enter Tryz.func20, Tryz.ntmps20
    go_wp2_with (first | (go_at_call 44; refine HT1.out.mono ?_; rintro e w1 ⟨rfl, hw1⟩) | (go_at_call 52; refine (HC.out _ hw1).mono ?_; rintro e w2 ⟨rfl, hw2⟩))
    go_ret
    exact ⟨rfl, hw1.trans (hw2.mono hw1.size)⟩
  | false =>
    have HT1 : Hid (Calls Tryz.prog 44 #[.slice A t.length c] w (Ret w (.int .i64 60))) := HT
    clear HT
    rw [Bool.false_and]
    go_enter Tryz.func20, Tryz.ntmps20
    go_wp2_with (go_at_call 44; refine HT1.out.mono ?_; rintro e w1 ⟨rfl, hw1⟩)
    go_ret
    exact ⟨rfl, hw1⟩
end Go.Proofs.YtjajoiahgfafgaaGreatDoor
end

/- arch.Check. -/
section
set_option linter.unusedVariables false
namespace Go.Proofs.YtjajoiahgfafgaaGreatDoor
open Go.RowKit Plain

/-- an archive's cells -/
def arV (a : Arc) (A : Option Addr) (c : Nat) (B : Option Addr) (d : Nat) : List Value := [.string ⟨a.pair.toArray⟩, .int .i64 a.serial, .slice A a.tree.length c, .slice B a.stamps.length d]
def okA (b : Bool) : Int := if b then 0 else 90
/-- An archive, as it lies. -/
structure ArAt (a : Arc) (A : Option Addr) (c : Nat) (B : Option Addr) (d : Nat) (w : World) : Prop where
  rows : IsRows w 4 A (a.tree.map ndV)
  stps : IsRows w 3 B (a.stamps.map stV)
  capN : a.tree.length ≤ c
  capS : a.stamps.length ≤ d
  lenN : a.tree.length ≤ 9223372036854775807
  lenS : a.stamps.length ≤ 9223372036854775807
  txt : ∀ n ∈ a.tree, n.path.length ≤ 9223372036854775807 ∧ n.data.length ≤ 9223372036854775807
  pr : a.pair.length ≤ 9223372036854775807
theorem ArAt.below {a : Arc} {A B : Option Addr} {c d : Nat} {w w' : World} (h : ArAt a A c B d w) (hb : Below w.heap.size w w') : ArAt a A c B d w' :=
  ⟨h.rows.below hb, h.stps.below hb, h.capN, h.capS, h.lenN, h.lenS, h.txt, h.pr⟩

set_option maxHeartbeats 1000000 in
set_option maxRecDepth 100000 in
theorem acheck_any (a : Arc) (A : Option Addr) (c : Nat) (B : Option Addr) (d : Nat) (m : Int) (w : World) (hL : Laid w m) (hA : ArAt a A c B d w) :
    Calls Tryz.prog 13 #[.agg (arV a A c B d).toArray] w (Ret w (.int .i64 (okA (checkA a)))) := by
  have HB0 := Lib.hid ((Below.refl w.heap.size w).alloc (Nat.le_refl _) (.cells (arV a A c B d).toArray 26))
  have HT := Lib.hid (fun W (h : Below w.heap.size w W) => isBare_any a.tree A c m W (hL.below h) (hA.rows.below h) hA.capN hA.lenN hA.txt)
  have HS := Lib.hid (fun W (h : Below w.heap.size w W) => containsStamp_any a.stamps B d W (hA.stps.below h) hA.lenS)
  have HRW := Lib.hid (heap_alloc_new w (.cells (arV a A c B d).toArray 26))
  have hpl := hA.pr
  have hln := hA.lenN
  have hls := hA.lenS
  clear hL hA
  obtain ⟨pair, serial, tree, stamps⟩ := a
  unfold checkA arV at *
  rw [all_not_any]
  simp only at hpl hln hls HT HS ⊢ HB0 HRW
  generalize stamps.any (fun n => !stampOK n) = bs at *
  generalize isBareT tree = bt at *
  cases h0 : pair.isEmpty with
  | true =>
    simp only [Bool.not_true, Bool.false_and]
    go_enter Tryz.func13, Tryz.ntmps13
    go_wp2_with (fail)
    go_ret
    exact ⟨rfl, HB0.out⟩
  | false =>
  cases h1 : decide ((64 : Int) < pair.length) with
  | true =>
    have h1' : decide (pair.length ≤ 64) = false := by rw [decide_eq_true_eq] at h1; rw [decide_eq_false_iff_not]; omega
    simp only [Bool.not_false, Bool.true_and, h1', Bool.false_and]
    clear h1'
    go_enter Tryz.func13, Tryz.ntmps13
    go_wp2_with (fail)
    go_ret
    exact ⟨rfl, HB0.out⟩
  | false =>
  have h1' : decide (pair.length ≤ 64) = true := by rw [decide_eq_false_iff_not] at h1; rw [decide_eq_true_eq]; omega
  cases h2 : decide (serial < 0) with
  | true =>
    have h2' : decide (0 ≤ serial) = false := by rw [decide_eq_true_eq] at h2; rw [decide_eq_false_iff_not]; omega
    simp only [Bool.not_false, Bool.true_and, h1', h2', Bool.false_and]
    clear h1' h2'
    go_enter Tryz.func13, Tryz.ntmps13
    go_wp2_with (fail)
    go_ret
    exact ⟨rfl, HB0.out⟩
  | false =>
  have h2' : decide (0 ≤ serial) = true := by rw [decide_eq_false_iff_not] at h2; rw [decide_eq_true_eq]; omega
  cases bt with
  | false =>
    simp only [Bool.not_false, Bool.true_and, h1', h2', Bool.false_and]
    clear h1' h2'
    go_enter Tryz.func13, Tryz.ntmps13
    go_wp2_with (go_at_call 20; refine (HT.out _ HB0.out).mono ?_; rintro e w1 ⟨rfl, hw1⟩; have hr1 := Lib.hid ((hw1.block w.heap.size (by simp)).trans HRW.out); have k2 := cell_of_row w1 _ 2 _ _ _ hr1.out; have k3 := cell_of_row w1 _ 3 _ _ _ hr1.out)
    go_ret
    exact ⟨rfl, HB0.out.trans (hw1.mono HB0.out.size)⟩
  | true =>
  by_cases h3 : stamps.length = tree.length
  · have h3' : (stamps.length == tree.length) = true := by rw [beq_iff_eq]; exact h3
    have hi : ((stamps.length : Int) != (tree.length : Int)) = false := by rw [bne_eq_false_iff_eq]; omega
    simp only [Bool.not_false, Bool.true_and, h1', h2', h3']
    have HH := Lib.hid h3
    clear h1' h2' h3' h3
    cases bs
    all_goals
      go_enter Tryz.func13, Tryz.ntmps13
      go_wp2_with (first | (go_at_call 20; refine (HT.out _ HB0.out).mono ?_; rintro e w1 ⟨rfl, hw1⟩; have hr1 := Lib.hid ((hw1.block w.heap.size (by simp)).trans HRW.out); have k2 := cell_of_row w1 _ 2 _ _ _ hr1.out; have k3 := cell_of_row w1 _ 3 _ _ _ hr1.out) | (go_at_call 43; refine (HS.out _ (HB0.out.trans (hw1.mono HB0.out.size))).mono ?_; rintro e w2 ⟨rfl, hw2⟩))
      go_ret
      exact ⟨rfl, (HB0.out.trans (hw1.mono HB0.out.size)).trans (hw2.mono (HB0.out.trans (hw1.mono HB0.out.size)).size)⟩
  · have h3' : (stamps.length == tree.length) = false := by rw [beq_eq_false_iff_ne]; exact h3
    have hi : ((stamps.length : Int) != (tree.length : Int)) = true := by rw [bne_iff_ne]; omega
    simp only [Bool.not_false, Bool.true_and, h1', h2', h3', Bool.false_and]
    have HH := Lib.hid h3
    clear h1' h2' h3' h3
    go_enter Tryz.func13, Tryz.ntmps13
    go_wp2_with (go_at_call 20; refine (HT.out _ HB0.out).mono ?_; rintro e w1 ⟨rfl, hw1⟩; have hr1 := Lib.hid ((hw1.block w.heap.size (by simp)).trans HRW.out); have k2 := cell_of_row w1 _ 2 _ _ _ hr1.out; have k3 := cell_of_row w1 _ 3 _ _ _ hr1.out)
    go_ret
    exact ⟨rfl, HB0.out.trans (hw1.mono HB0.out.size)⟩

set_option maxHeartbeats 1000000 in
set_option maxRecDepth 100000 in
/-- arch.Match -/
theorem amatch_any (a b : Arc) (A : Option Addr) (c : Nat) (B : Option Addr) (d : Nat) (A' : Option Addr) (c' : Nat) (B' : Option Addr) (d' : Nat) (m : Int) (w : World) (hL : Laid w m) (hA : ArAt a A c B d w) (hB : ArAt b A' c' B' d' w) :
    Calls Tryz.prog 15 #[.agg (arV a A c B d).toArray, .agg (arV b A' c' B' d').toArray] w (Ret w (.bool (checkA a && checkA b && (a.pair == b.pair) && (a.serial == b.serial) && (a.tree == b.tree)))) := by
  have HCA := Lib.hid (fun W (h : Below w.heap.size w W) => acheck_any a A c B d m W (hL.below h) (hA.below h))
  have HCB := Lib.hid (fun W (h : Below w.heap.size w W) => acheck_any b A' c' B' d' m W (hL.below h) (hB.below h))
  have HSM := Lib.hid (fun W (h : Below w.heap.size w W) => tsame_any a.tree b.tree A A' c c' W (hA.rows.below h) (hB.rows.below h) hA.lenN hB.lenN)
  obtain ⟨w0, hw0⟩ : ∃ w0, (w.alloc (.cells (arV a A c B d).toArray 26)).alloc (.cells (arV b A' c' B' d').toArray 26) = w0 := ⟨_, rfl⟩
  have HB0 := Lib.hid (show Below w.heap.size w w0 by rw [← hw0]; exact ((Below.refl w.heap.size w).alloc (Nat.le_refl _) _).alloc (by simp) _)
  have HS0 := Lib.hid (show w0.heap.size = w.heap.size + 2 by rw [← hw0]; simp)
  have HRA := Lib.hid (show w0.heap[w.heap.size]? = some (.cells (arV a A c B d).toArray 26 (0, 0)) by rw [← hw0, Below.heap_alloc _ _ _ (by simp)]; exact heap_alloc_new _ _)
  have HRB := Lib.hid (show w0.heap[w.heap.size + 1]? = some (.cells (arV b A' c' B' d').toArray 26 (0, 0)) by have := heap_alloc_new (w.alloc (.cells (arV a A c B d).toArray 26)) (.cells (arV b A' c' B' d').toArray 26); rw [← hw0]; simpa using this)
  have HW0 := Lib.hid hw0
  clear hL hA hB hw0
  generalize checkA a = ca at *
  generalize checkA b = cb at *
  obtain ⟨pair, serial, tree, stamps⟩ := a
  obtain ⟨pair', serial', tree', stamps'⟩ := b
  unfold arV at *
  simp only at HCA HCB HSM HRA HRB HW0 ⊢
  generalize (tree == tree') = bt at *
  cases ca with
  | false =>
    have H1 : Hid (∀ W, Below w.heap.size w W → Calls Tryz.prog 13 #[.agg #[.string ⟨pair.toArray⟩, .int .i64 serial, .slice A tree.length c, .slice B stamps.length d]] W (Ret W (.int .i64 90))) := HCA
    clear HCA
    simp only [Bool.false_and]
    go_enter Tryz.func15, Tryz.ntmps15
    go_upto_region 1 with (fail)
    rw [HW0.out]
    have ta0 := cell_of_row w0 _ 0 _ _ _ HRA.out; have ta1 := cell_of_row w0 _ 1 _ _ _ HRA.out; have ta2 := cell_of_row w0 _ 2 _ _ _ HRA.out; have ta3 := cell_of_row w0 _ 3 _ _ _ HRA.out
    go_wp2_with (go_at_call 13; refine (H1.out _ HB0.out).mono ?_; rintro e w1 ⟨rfl, hw1⟩)
    go_ret
    exact ⟨rfl, HB0.out.trans (hw1.mono HB0.out.size)⟩
  | true =>
  have H1 : Hid (∀ W, Below w.heap.size w W → Calls Tryz.prog 13 #[.agg #[.string ⟨pair.toArray⟩, .int .i64 serial, .slice A tree.length c, .slice B stamps.length d]] W (Ret W (.int .i64 0))) := HCA
  clear HCA
  cases cb with
  | false =>
    have H2 : Hid (∀ W, Below w.heap.size w W → Calls Tryz.prog 13 #[.agg #[.string ⟨pair'.toArray⟩, .int .i64 serial', .slice A' tree'.length c', .slice B' stamps'.length d']] W (Ret W (.int .i64 90))) := HCB
    clear HCB
    simp only [Bool.false_and, Bool.and_false]
    go_enter Tryz.func15, Tryz.ntmps15
    go_upto_region 1 with (fail)
    rw [HW0.out]
    have ta0 := cell_of_row w0 _ 0 _ _ _ HRA.out; have ta1 := cell_of_row w0 _ 1 _ _ _ HRA.out; have ta2 := cell_of_row w0 _ 2 _ _ _ HRA.out; have ta3 := cell_of_row w0 _ 3 _ _ _ HRA.out
    go_wp2_with (fail)
    refine (H1.out _ HB0.out).mono ?_
    rintro e w1 ⟨rfl, hw1⟩
    have HB1 := Lib.hid (HB0.out.trans (hw1.mono HB0.out.size))
    have hra := (hw1.block w.heap.size (by have := HS0.out; omega)).trans HRA.out
    have hrb := (hw1.block (w.heap.size + 1) (by have := HS0.out; omega)).trans HRB.out
    have p0 := cell_of_row w1 _ 0 _ _ _ hra
    have q0 := cell_of_row w1 _ 0 _ _ _ hrb
    have p1 := cell_of_row w1 _ 1 _ _ _ hra
    have q1 := cell_of_row w1 _ 1 _ _ _ hrb
    have p2 := cell_of_row w1 _ 2 _ _ _ hra
    have q2 := cell_of_row w1 _ 2 _ _ _ hrb
    have p3 := cell_of_row w1 _ 3 _ _ _ hra
    have q3 := cell_of_row w1 _ 3 _ _ _ hrb
    have HRA2 := Lib.hid hra
    have HRB2 := Lib.hid hrb
    clear hra hrb
    go_wp2_with (fail)
    refine (H2.out _ HB1.out).mono ?_
    rintro e w2 ⟨rfl, hw2⟩
    have HB2 := Lib.hid (HB1.out.trans (hw2.mono HB1.out.size))
    have hra2 := (hw2.block w.heap.size (by have := hw1.size; have := HS0.out; omega)).trans HRA2.out
    have hrb2 := (hw2.block (w.heap.size + 1) (by have := hw1.size; have := HS0.out; omega)).trans HRB2.out
    have r0 := cell_of_row w2 _ 0 _ _ _ hra2
    have s0 := cell_of_row w2 _ 0 _ _ _ hrb2
    have r1 := cell_of_row w2 _ 1 _ _ _ hra2
    have s1 := cell_of_row w2 _ 1 _ _ _ hrb2
    have r2 := cell_of_row w2 _ 2 _ _ _ hra2
    have s2 := cell_of_row w2 _ 2 _ _ _ hrb2
    have r3 := cell_of_row w2 _ 3 _ _ _ hra2
    have s3 := cell_of_row w2 _ 3 _ _ _ hrb2
    clear hra2 hrb2
    go_wp2_with (fail)
    go_ret
    exact ⟨rfl, HB2.out⟩
  | true =>
  have H2 : Hid (∀ W, Below w.heap.size w W → Calls Tryz.prog 13 #[.agg #[.string ⟨pair'.toArray⟩, .int .i64 serial', .slice A' tree'.length c', .slice B' stamps'.length d']] W (Ret W (.int .i64 0))) := HCB
  clear HCB
  simp only [Bool.and_true, Bool.true_and]
  cases hpp : (pair == pair') with
  | false =>
    simp only [Bool.false_and]
    go_enter Tryz.func15, Tryz.ntmps15
    go_upto_region 1 with (fail)
    rw [HW0.out]
    have ta0 := cell_of_row w0 _ 0 _ _ _ HRA.out; have ta1 := cell_of_row w0 _ 1 _ _ _ HRA.out; have ta2 := cell_of_row w0 _ 2 _ _ _ HRA.out; have ta3 := cell_of_row w0 _ 3 _ _ _ HRA.out
    go_wp2_with (fail)
    refine (H1.out _ HB0.out).mono ?_
    rintro e w1 ⟨rfl, hw1⟩
    have HB1 := Lib.hid (HB0.out.trans (hw1.mono HB0.out.size))
    have hra := (hw1.block w.heap.size (by have := HS0.out; omega)).trans HRA.out
    have hrb := (hw1.block (w.heap.size + 1) (by have := HS0.out; omega)).trans HRB.out
    have p0 := cell_of_row w1 _ 0 _ _ _ hra
    have q0 := cell_of_row w1 _ 0 _ _ _ hrb
    have p1 := cell_of_row w1 _ 1 _ _ _ hra
    have q1 := cell_of_row w1 _ 1 _ _ _ hrb
    have p2 := cell_of_row w1 _ 2 _ _ _ hra
    have q2 := cell_of_row w1 _ 2 _ _ _ hrb
    have p3 := cell_of_row w1 _ 3 _ _ _ hra
    have q3 := cell_of_row w1 _ 3 _ _ _ hrb
    have HRA2 := Lib.hid hra
    have HRB2 := Lib.hid hrb
    clear hra hrb
    go_wp2_with (fail)
    refine (H2.out _ HB1.out).mono ?_
    rintro e w2 ⟨rfl, hw2⟩
    have HB2 := Lib.hid (HB1.out.trans (hw2.mono HB1.out.size))
    have hra2 := (hw2.block w.heap.size (by have := hw1.size; have := HS0.out; omega)).trans HRA2.out
    have hrb2 := (hw2.block (w.heap.size + 1) (by have := hw1.size; have := HS0.out; omega)).trans HRB2.out
    have r0 := cell_of_row w2 _ 0 _ _ _ hra2
    have s0 := cell_of_row w2 _ 0 _ _ _ hrb2
    have r1 := cell_of_row w2 _ 1 _ _ _ hra2
    have s1 := cell_of_row w2 _ 1 _ _ _ hrb2
    have r2 := cell_of_row w2 _ 2 _ _ _ hra2
    have s2 := cell_of_row w2 _ 2 _ _ _ hrb2
    have r3 := cell_of_row w2 _ 3 _ _ _ hra2
    have s3 := cell_of_row w2 _ 3 _ _ _ hrb2
    clear hra2 hrb2
    go_wp2_with (fail)
    go_ret
    exact ⟨rfl, HB2.out⟩
  | true =>
  cases hss : (serial == serial') with
  | false =>
    simp only [Bool.false_and, Bool.and_false]
    go_enter Tryz.func15, Tryz.ntmps15
    go_upto_region 1 with (fail)
    rw [HW0.out]
    have ta0 := cell_of_row w0 _ 0 _ _ _ HRA.out; have ta1 := cell_of_row w0 _ 1 _ _ _ HRA.out; have ta2 := cell_of_row w0 _ 2 _ _ _ HRA.out; have ta3 := cell_of_row w0 _ 3 _ _ _ HRA.out
    go_wp2_with (fail)
    refine (H1.out _ HB0.out).mono ?_
    rintro e w1 ⟨rfl, hw1⟩
    have HB1 := Lib.hid (HB0.out.trans (hw1.mono HB0.out.size))
    have hra := (hw1.block w.heap.size (by have := HS0.out; omega)).trans HRA.out
    have hrb := (hw1.block (w.heap.size + 1) (by have := HS0.out; omega)).trans HRB.out
    have p0 := cell_of_row w1 _ 0 _ _ _ hra
    have q0 := cell_of_row w1 _ 0 _ _ _ hrb
    have p1 := cell_of_row w1 _ 1 _ _ _ hra
    have q1 := cell_of_row w1 _ 1 _ _ _ hrb
    have p2 := cell_of_row w1 _ 2 _ _ _ hra
    have q2 := cell_of_row w1 _ 2 _ _ _ hrb
    have p3 := cell_of_row w1 _ 3 _ _ _ hra
    have q3 := cell_of_row w1 _ 3 _ _ _ hrb
    have HRA2 := Lib.hid hra
    have HRB2 := Lib.hid hrb
    clear hra hrb
    go_wp2_with (fail)
    refine (H2.out _ HB1.out).mono ?_
    rintro e w2 ⟨rfl, hw2⟩
    have HB2 := Lib.hid (HB1.out.trans (hw2.mono HB1.out.size))
    have hra2 := (hw2.block w.heap.size (by have := hw1.size; have := HS0.out; omega)).trans HRA2.out
    have hrb2 := (hw2.block (w.heap.size + 1) (by have := hw1.size; have := HS0.out; omega)).trans HRB2.out
    have r0 := cell_of_row w2 _ 0 _ _ _ hra2
    have s0 := cell_of_row w2 _ 0 _ _ _ hrb2
    have r1 := cell_of_row w2 _ 1 _ _ _ hra2
    have s1 := cell_of_row w2 _ 1 _ _ _ hrb2
    have r2 := cell_of_row w2 _ 2 _ _ _ hra2
    have s2 := cell_of_row w2 _ 2 _ _ _ hrb2
    have r3 := cell_of_row w2 _ 3 _ _ _ hra2
    have s3 := cell_of_row w2 _ 3 _ _ _ hrb2
    clear hra2 hrb2
    go_wp2_with (fail)
    go_ret
    exact ⟨rfl, HB2.out⟩
  | true =>
    simp only [Bool.true_and]
    go_enter Tryz.func15, Tryz.ntmps15
    go_upto_region 1 with (fail)
    rw [HW0.out]
    have ta0 := cell_of_row w0 _ 0 _ _ _ HRA.out; have ta1 := cell_of_row w0 _ 1 _ _ _ HRA.out; have ta2 := cell_of_row w0 _ 2 _ _ _ HRA.out; have ta3 := cell_of_row w0 _ 3 _ _ _ HRA.out
    go_wp2_with (fail)
    refine (H1.out _ HB0.out).mono ?_
    rintro e w1 ⟨rfl, hw1⟩
    have HB1 := Lib.hid (HB0.out.trans (hw1.mono HB0.out.size))
    have hra := (hw1.block w.heap.size (by have := HS0.out; omega)).trans HRA.out
    have hrb := (hw1.block (w.heap.size + 1) (by have := HS0.out; omega)).trans HRB.out
    have p0 := cell_of_row w1 _ 0 _ _ _ hra
    have q0 := cell_of_row w1 _ 0 _ _ _ hrb
    have p1 := cell_of_row w1 _ 1 _ _ _ hra
    have q1 := cell_of_row w1 _ 1 _ _ _ hrb
    have p2 := cell_of_row w1 _ 2 _ _ _ hra
    have q2 := cell_of_row w1 _ 2 _ _ _ hrb
    have p3 := cell_of_row w1 _ 3 _ _ _ hra
    have q3 := cell_of_row w1 _ 3 _ _ _ hrb
    have HRA2 := Lib.hid hra
    have HRB2 := Lib.hid hrb
    clear hra hrb
    go_wp2_with (fail)
    refine (H2.out _ HB1.out).mono ?_
    rintro e w2 ⟨rfl, hw2⟩
    have HB2 := Lib.hid (HB1.out.trans (hw2.mono HB1.out.size))
    have hra2 := (hw2.block w.heap.size (by have := hw1.size; have := HS0.out; omega)).trans HRA2.out
    have hrb2 := (hw2.block (w.heap.size + 1) (by have := hw1.size; have := HS0.out; omega)).trans HRB2.out
    have r0 := cell_of_row w2 _ 0 _ _ _ hra2
    have s0 := cell_of_row w2 _ 0 _ _ _ hrb2
    have r1 := cell_of_row w2 _ 1 _ _ _ hra2
    have s1 := cell_of_row w2 _ 1 _ _ _ hrb2
    have r2 := cell_of_row w2 _ 2 _ _ _ hra2
    have s2 := cell_of_row w2 _ 2 _ _ _ hrb2
    have r3 := cell_of_row w2 _ 3 _ _ _ hra2
    have s3 := cell_of_row w2 _ 3 _ _ _ hrb2
    clear hra2 hrb2
    go_wp2_with (fail)
    refine (HSM.out _ HB2.out).mono ?_
    rintro e w3 ⟨rfl, hw3⟩
    go_wp2_with (fail)
    go_ret
    exact ⟨rfl, HB2.out.trans (hw3.mono HB2.out.size)⟩
end Go.Proofs.YtjajoiahgfafgaaGreatDoor
end
