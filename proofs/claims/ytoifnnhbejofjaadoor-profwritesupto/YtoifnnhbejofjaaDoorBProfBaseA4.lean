/- Texts joined: PlainPlan, PlainProf, WholeRows. -/
import Derived.Test.YtoifnnhbejofjaaDoorBProfBaseA3
import Derived.Lib.SlTrimSet
import Derived.Lib.ItoaNum
import Derived.Test.YtoifnnhbejofjaaDoorBProfBaseA1
import Derived.Deep.MidRow
set_option linter.unusedSimpArgs false
set_option linter.unusedVariables false

/- plan: what is done at all items, as plain functions of lists. -/
section
set_option linter.unusedVariables false
namespace Go.Proofs.YtoifnnhbejofjaaDoor
namespace Plain

structure Itm where
  path : List UInt8
  what : Int
structure Chc where
  path : List UInt8
  act : Int
structure Prg where
  name : List UInt8
  pat : List UInt8
structure Prf where
  merge : List Prg
  prefer : Int
  force : Int
  batch : Bool

/-- the last program whose pattern matches -/
def progF (a : List UInt8) (l : List Prg) (s : List UInt8) : List UInt8 := l.foldl (fun a m => if matchG m.pat s then m.name else a) a
def progP (l : List Prg) (s : List UInt8) : List UInt8 := progF [] l s
theorem progF_at {l : List Prg} {i : Nat} (h : i < l.length) (a s : List UInt8) : progF a (l.drop i) s = progF (if matchG l[i].pat s then l[i].name else a) (l.drop (i + 1)) s := by
  rw [List.drop_eq_getElem_cons h]; rfl
theorem progF_end (l : List Prg) (a s : List UInt8) : progF a (l.drop l.length) s = a := by rw [List.drop_length]; rfl

def lookI (l : List Itm) (s : List UInt8) : Option Int := (l.find? (fun x => x.path == s)).map (·.what)
def lookC (l : List Chc) (s : List UInt8) : Option Int := (l.find? (fun x => x.path == s)).map (·.act)

/-- the direction that an item tells -/
def goes (what : Int) : Int := if what = 3 then 2 else 1
def actP (what : Int) (prog : List UInt8) (p : Prf) (ch : Option Int) : Int :=
  match ch with
  | some d => if d = 4 then goes what else d
  | none => if p.force = 1 ∨ p.force = 2 then p.force
    else if what = 4 then (if prog ≠ [] then 3 else if p.prefer = 1 ∨ p.prefer = 2 then p.prefer else 0)
    else if p.batch = true then goes what else 0

def firstB (p : Nat → Bool) (i n : Nat) : Option Nat := (List.range' i (n - i)).find? p
theorem firstB_at {p : Nat → Bool} {i n : Nat} (h : i < n) : firstB p i n = if p i = true then some i else firstB p (i + 1) n := by
  obtain ⟨k, hk⟩ : ∃ k, n - i = k + 1 := ⟨n - i - 1, by omega⟩
  unfold firstB
  rw [hk, List.range'_succ, List.find?_cons, show n - (i + 1) = k by omega]
  cases p i <;> rfl
theorem firstB_end {p : Nat → Bool} {n : Nat} : firstB p n n = none := by unfold firstB; simp
theorem firstB_none {p : Nat → Bool} : ∀ (k i n : Nat), n ≤ i + k → (firstB p i n = none ↔ ∀ j, i ≤ j → j < n → p j = false) := by
  intro k
  induction k with
  | zero =>
    intro i n h
    refine ⟨(fun _ j h1 h2 => by omega), fun _ => ?_⟩
    unfold firstB
    rw [show n - i = 0 by omega]; rfl
  | succ k ih =>
    intro i n h
    by_cases hi : i < n
    · rw [firstB_at hi]
      by_cases hp : p i = true
      · rw [if_pos hp]
        refine ⟨(fun h => by cases h), fun h => ?_⟩
        rw [h i (Nat.le_refl _) hi] at hp; cases hp
      · rw [if_neg hp, ih (i + 1) n (by omega)]
        refine ⟨fun h j h1 h2 => ?_, fun h j h1 h2 => h j (by omega) h2⟩
        by_cases e : j = i
        · subst e; simpa using hp
        · exact h j (by omega) h2
    · refine ⟨(fun _ j h1 h2 => by omega), fun _ => ?_⟩
      unfold firstB
      rw [show n - i = 0 by omega]; rfl
theorem firstB_some {p : Nat → Bool} : ∀ (k i n r : Nat), n ≤ i + k → (firstB p i n = some r ↔ i ≤ r ∧ r < n ∧ p r = true ∧ ∀ j, i ≤ j → j < r → p j = false) := by
  intro k
  induction k with
  | zero =>
    intro i n r h
    unfold firstB
    rw [show n - i = 0 by omega]
    exact ⟨(fun h => by cases h), (fun ⟨h1, h2, _⟩ => by omega)⟩
  | succ k ih =>
    intro i n r h
    by_cases hi : i < n
    · rw [firstB_at hi]
      by_cases hp : p i = true
      · rw [if_pos hp]
        constructor
        · intro h
          injection h with h
          subst h
          exact ⟨Nat.le_refl _, hi, hp, (fun j h1 h2 => by omega)⟩
        · rintro ⟨h1, h2, h3, h4⟩
          by_cases e : r = i
          · rw [e]
          · rw [h4 i (Nat.le_refl _) (by omega)] at hp; cases hp
      · rw [if_neg hp, ih (i + 1) n r (by omega)]
        constructor
        · rintro ⟨h1, h2, h3, h4⟩
          refine ⟨by omega, h2, h3, fun j h5 h6 => ?_⟩
          by_cases e : j = i
          · subst e; simpa using hp
          · exact h4 j (by omega) h6
        · rintro ⟨h1, h2, h3, h4⟩
          have hne : r ≠ i := by rintro rfl; exact hp h3
          exact ⟨by omega, h2, h3, fun j h5 h6 => h4 j (by omega) h6⟩
    · unfold firstB
      rw [show n - i = 0 by omega]
      exact ⟨(fun h => by cases h), (fun ⟨h1, h2, _⟩ => by omega)⟩

def itemBad (l : List Itm) (i : Nat) : Bool :=
  match l[i]? with
  | none => false
  | some x => (lookI (l.take i) x.path).isSome || decide (x.what < 1) || decide (4 < x.what)
def choiceBad (items : List Itm) (l : List Chc) (i : Nat) : Bool :=
  match l[i]? with
  | none => false
  | some c => (lookC (l.take i) c.path).isSome || (match lookI items c.path with
    | none => true
    | some w => w == 1 || decide (c.act < 0) || decide (4 < c.act) || (c.act == 4 && w == 4))
def outP (items : List Itm) (p : Prf) (choices : List Chc) : List Chc :=
  (items.filter fun x => decide (x.what ≠ 1)).map fun x => ⟨x.path, actP x.what (progP p.merge x.path) p (lookC choices x.path)⟩
def makeP (items : List Itm) (p : Prf) (choices : List Chc) : List Chc × Nat × Nat :=
  match firstB (itemBad items) 0 items.length with
  | some i => ([], i, 91)
  | none => match firstB (choiceBad items choices) 0 choices.length with
    | some i => ([], i, 130)
    | none => (outP items p choices, 0, 0)

theorem outP_nil (p : Prf) (ch : List Chc) : outP [] p ch = [] := rfl
theorem outP_cons (x : Itm) (l : List Itm) (p : Prf) (ch : List Chc) : outP (x :: l) p ch = if x.what = 1 then outP l p ch else ⟨x.path, actP x.what (progP p.merge x.path) p (lookC ch x.path)⟩ :: outP l p ch := by
  unfold outP
  by_cases h : x.what = 1
  · rw [if_pos h, List.filter_cons_of_neg (by simpa using h)]
  · rw [if_neg h, List.filter_cons_of_pos (by simpa using h)]; rfl
theorem outP_append (l k : List Itm) (p : Prf) (ch : List Chc) : outP (l ++ k) p ch = outP l p ch ++ outP k p ch := by
  unfold outP; rw [List.filter_append, List.map_append]
theorem outP_at {l : List Itm} {i : Nat} (h : i < l.length) (p : Prf) (ch : List Chc) : outP (l.drop i) p ch = if l[i].what = 1 then outP (l.drop (i + 1)) p ch else ⟨l[i].path, actP l[i].what (progP p.merge l[i].path) p (lookC ch l[i].path)⟩ :: outP (l.drop (i + 1)) p ch := by
  rw [List.drop_eq_getElem_cons h, outP_cons]
theorem outP_take {l : List Itm} {i : Nat} (h : i < l.length) (p : Prf) (ch : List Chc) : outP (l.take (i + 1)) p ch = if l[i].what = 1 then outP (l.take i) p ch else outP (l.take i) p ch ++ [⟨l[i].path, actP l[i].what (progP p.merge l[i].path) p (lookC ch l[i].path)⟩] := by
  rw [List.take_succ_eq_append_getElem h, outP_append, outP_cons, outP_nil]
  split
  · simp
  · rfl
theorem outP_length (l : List Itm) (p : Prf) (ch : List Chc) : (outP l p ch).length ≤ l.length := by
  unfold outP; rw [List.length_map]; exact List.length_filter_le _ _

theorem lookI_cons (x : Itm) (l : List Itm) (s : List UInt8) : lookI (x :: l) s = if x.path = s then some x.what else lookI l s := by
  unfold lookI
  rw [List.find?_cons]
  by_cases h : x.path = s
  · rw [if_pos h, beq_iff_eq.2 h]; rfl
  · rw [if_neg h, beq_eq_false_iff_ne.2 h]
theorem lookC_cons (x : Chc) (l : List Chc) (s : List UInt8) : lookC (x :: l) s = if x.path = s then some x.act else lookC l s := by
  unfold lookC
  rw [List.find?_cons]
  by_cases h : x.path = s
  · rw [if_pos h, beq_iff_eq.2 h]; rfl
  · rw [if_neg h, beq_eq_false_iff_ne.2 h]
theorem lookI_snoc (l : List Itm) (x : Itm) (s : List UInt8) : lookI (l ++ [x]) s = (lookI l s).or (if x.path = s then some x.what else none) := by
  unfold lookI
  rw [List.find?_append]
  cases h : l.find? (fun x => x.path == s) with
  | some y => rfl
  | none =>
    by_cases h : x.path = s
    · rw [if_pos h]; simp [h]
    · rw [if_neg h]; simp [h]
theorem lookC_snoc (l : List Chc) (x : Chc) (s : List UInt8) : lookC (l ++ [x]) s = (lookC l s).or (if x.path = s then some x.act else none) := by
  unfold lookC
  rw [List.find?_append]
  cases h : l.find? (fun x => x.path == s) with
  | some y => rfl
  | none =>
    by_cases h : x.path = s
    · rw [if_pos h]; simp [h]
    · rw [if_neg h]; simp [h]
/-- what the map holds behind one more -/
theorem lookI_take {l : List Itm} {i : Nat} (h : i < l.length) (hn : lookI (l.take i) l[i].path = none) (s : List UInt8) : lookI (l.take (i + 1)) s = if s = l[i].path then some l[i].what else lookI (l.take i) s := by
  rw [List.take_succ_eq_append_getElem h, lookI_snoc]
  by_cases e : s = l[i].path
  · rw [if_pos e, e, hn, if_pos rfl]; rfl
  · rw [if_neg e, if_neg (fun q => e q.symm)]; simp
theorem lookC_take {l : List Chc} {i : Nat} (h : i < l.length) (hn : lookC (l.take i) l[i].path = none) (s : List UInt8) : lookC (l.take (i + 1)) s = if s = l[i].path then some l[i].act else lookC (l.take i) s := by
  rw [List.take_succ_eq_append_getElem h, lookC_snoc]
  by_cases e : s = l[i].path
  · rw [if_pos e, e, hn, if_pos rfl]; rfl
  · rw [if_neg e, if_neg (fun q => e q.symm)]; simp

theorem itemBad_at {l : List Itm} {i : Nat} (h : i < l.length) : itemBad l i = ((lookI (l.take i) l[i].path).isSome || decide (l[i].what < 1) || decide (4 < l[i].what)) := by
  unfold itemBad; rw [List.getElem?_eq_getElem h]
theorem choiceBad_at {items : List Itm} {l : List Chc} {i : Nat} (h : i < l.length) : choiceBad items l i = ((lookC (l.take i) l[i].path).isSome || (match lookI items l[i].path with
    | none => true
    | some w => w == 1 || decide (l[i].act < 0) || decide (4 < l[i].act) || (l[i].act == 4 && w == 4))) := by
  unfold choiceBad; rw [List.getElem?_eq_getElem h]
theorem lookC_mem {l : List Chc} {s : List UInt8} {d : Int} (h : lookC l s = some d) : ∃ (i : Nat) (h : i < l.length), l[i].path = s ∧ l[i].act = d := by
  unfold lookC at h
  cases hf : l.find? (fun x => x.path == s) with
  | none => rw [hf] at h; cases h
  | some y =>
    rw [hf] at h
    injection h with h
    have h1 := List.mem_of_find?_eq_some hf
    have h2 := List.find?_some hf
    obtain ⟨i, hi, rfl⟩ := List.getElem_of_mem h1
    exact ⟨i, hi, by simpa using h2, h⟩
theorem lookI_mem {l : List Itm} {s : List UInt8} {d : Int} (h : lookI l s = some d) : ∃ (i : Nat) (h : i < l.length), l[i].path = s ∧ l[i].what = d := by
  unfold lookI at h
  cases hf : l.find? (fun x => x.path == s) with
  | none => rw [hf] at h; cases h
  | some y =>
    rw [hf] at h
    injection h with h
    have h1 := List.mem_of_find?_eq_some hf
    have h2 := List.find?_some hf
    obtain ⟨i, hi, rfl⟩ := List.getElem_of_mem h1
    exact ⟨i, hi, by simpa using h2, h⟩
theorem lookI_none {l : List Itm} {s : List UInt8} : lookI l s = none ↔ ∀ x ∈ l, x.path ≠ s := by
  unfold lookI; simp
theorem lookC_none {l : List Chc} {s : List UInt8} : lookC l s = none ↔ ∀ x ∈ l, x.path ≠ s := by
  unfold lookC; simp
/-- items without a fault: each is found by its own path -/
theorem lookI_own {l : List Itm} (hok : firstB (itemBad l) 0 l.length = none) {i : Nat} (h : i < l.length) : lookI l l[i].path = some l[i].what := by
  rw [firstB_none l.length 0 l.length (by omega)] at hok
  have hb := hok i (by omega) h
  rw [itemBad_at h] at hb
  simp only [Bool.or_eq_false_iff, Option.isSome_eq_false_iff, Option.isNone_iff_eq_none] at hb
  have hn := hb.1.1
  have e : l.find? (fun x => x.path == l[i].path) = (l.take i ++ l[i] :: l.drop (i + 1)).find? (fun x => x.path == l[i].path) := by
    rw [← List.drop_eq_getElem_cons h, List.take_append_drop]
  unfold lookI at hn ⊢
  rw [e, List.find?_append]
  cases hf : (l.take i).find? (fun x => x.path == l[i].path) with
  | some y => rw [hf] at hn; cases hn
  | none => rw [List.find?_cons, beq_self_eq_true]; rfl
theorem item_what {l : List Itm} (hok : firstB (itemBad l) 0 l.length = none) {i : Nat} (h : i < l.length) : 1 ≤ l[i].what ∧ l[i].what ≤ 4 := by
  rw [firstB_none l.length 0 l.length (by omega)] at hok
  have hb := hok i (by omega) h
  rw [itemBad_at h] at hb
  simp only [Bool.or_eq_false_iff, decide_eq_false_iff_not] at hb
  omega
/-- choices without a fault: what is chosen for an item that is no matter of course can be done -/
theorem choice_ok {items : List Itm} {l : List Chc} (hi : firstB (itemBad items) 0 items.length = none) (hok : firstB (choiceBad items l) 0 l.length = none) {i : Nat} (h : i < items.length) {d : Int} (hd : lookC l items[i].path = some d) :
    items[i].what ≠ 1 ∧ 0 ≤ d ∧ d ≤ 4 ∧ (d = 4 → items[i].what ≠ 4) := by
  obtain ⟨k, hk, h1, h2⟩ := lookC_mem hd
  rw [firstB_none l.length 0 l.length (by omega)] at hok
  have hb := hok k (by omega) hk
  rw [choiceBad_at hk, h1, lookI_own hi h, h2] at hb
  simp only [Bool.or_eq_false_iff, Bool.and_eq_false_iff, beq_eq_false_iff_ne, decide_eq_false_iff_not] at hb
  refine ⟨hb.2.1.1.1, by omega, by omega, fun e => ?_⟩
  rcases hb.2.2 with q | q
  · exact absurd e q
  · exact q

/-! the laws -/
theorem actP_nothing (what : Int) (prog : List UInt8) (p : Prf) (h1 : p.force = 0) (h2 : p.prefer = 0) (h3 : p.batch = false) (h4 : prog = []) : actP what prog p none = 0 := by
  unfold actP
  simp [h1, h2, h3, h4]
theorem firstB_congr {p q : Nat → Bool} : ∀ (k i n : Nat), n ≤ i + k → (∀ j, i ≤ j → j < n → p j = q j) → firstB p i n = firstB q i n := by
  intro k
  induction k with
  | zero => intro i n h _; unfold firstB; rw [show n - i = 0 by omega]; rfl
  | succ k ih =>
    intro i n h hpq
    by_cases hi : i < n
    · rw [firstB_at hi, firstB_at hi, hpq i (Nat.le_refl _) hi, ih (i + 1) n (by omega) (fun j h1 h2 => hpq j (by omega) h2)]
    · unfold firstB; rw [show n - i = 0 by omega]; rfl
theorem firstB_more {p : Nat → Bool} : ∀ (k i n : Nat), n ≤ i + k → i ≤ n → firstB p i (n + 1) = match firstB p i n with
    | some r => some r
    | none => if p n = true then some n else none := by
  intro k
  induction k with
  | zero =>
    intro i n h hi
    obtain rfl : i = n := by omega
    rw [firstB_at (by omega), firstB_end, firstB_end]
  | succ k ih =>
    intro i n h hi
    by_cases e : i = n
    · subst e
      rw [firstB_at (by omega), firstB_end, firstB_end]
    · rw [firstB_at (by omega), firstB_at (show i < n by omega), ih (i + 1) n (by omega) (by omega)]
      by_cases hp : p i = true
      · rw [if_pos hp, if_pos hp]
      · rw [if_neg hp, if_neg hp]
theorem itemBad_more {l : List Itm} {x : Itm} {i : Nat} (h : i < l.length) : itemBad (l ++ [x]) i = itemBad l i := by
  rw [itemBad_at h, itemBad_at (by simp; omega), List.take_append_of_le_length (by omega), List.getElem_append_left h]
theorem choiceBad_more {items : List Itm} {l : List Chc} {x : Chc} {i : Nat} (h : i < l.length) : choiceBad items (l ++ [x]) i = choiceBad items l i := by
  rw [choiceBad_at h, choiceBad_at (by simp; omega), List.take_append_of_le_length (by omega), List.getElem_append_left h]
/-- an item more: what is done at the others is as it was -/
theorem make_more (items : List Itm) (p : Prf) (x : Itm) :
    makeP (items ++ [x]) p [] = match makeP items p [] with
      | (l, at_, e) => if e ≠ 0 then (l, at_, e) else if itemBad (items ++ [x]) items.length = true then ([], items.length, 91) else (l ++ outP [x] p [], 0, 0) := by
  unfold makeP
  have h1 : firstB (itemBad (items ++ [x])) 0 (items ++ [x]).length = match firstB (itemBad items) 0 items.length with
      | some r => some r
      | none => if itemBad (items ++ [x]) items.length = true then some items.length else none := by
    rw [List.length_append, List.length_cons, List.length_nil, firstB_more items.length 0 items.length (by omega) (by omega), firstB_congr (q := itemBad items) items.length 0 items.length (by omega) (fun j _ h2 => itemBad_more h2)]
  rw [h1]
  cases firstB (itemBad items) 0 items.length with
  | some r => rfl
  | none =>
    simp only [List.length_nil, firstB_end]
    by_cases hb : itemBad (items ++ [x]) items.length = true
    · rw [if_pos hb, if_pos hb]; rfl
    · rw [if_neg hb, if_neg hb]
      simp only [ne_eq, not_true_eq_false, if_false]
      rw [outP_append]
theorem make_len {items : List Itm} {p : Prf} {ch : List Chc} (h : (makeP items p ch).2.2 ≠ 0) : (makeP items p ch).1 = [] := by
  unfold makeP
  cases h1 : firstB (itemBad items) 0 items.length with
  | some r => rfl
  | none =>
    cases h2 : firstB (choiceBad items ch) 0 ch.length with
    | some r => rfl
    | none => unfold makeP at h; rw [h1] at h; simp only [h2] at h; exact absurd rfl h
theorem make_err (items : List Itm) (p : Prf) (ch : List Chc) : (makeP items p ch).2.2 = 0 ∨ (makeP items p ch).2.2 = 91 ∨ (makeP items p ch).2.2 = 130 := by
  unfold makeP
  cases firstB (itemBad items) 0 items.length with
  | some r => exact .inr (.inl rfl)
  | none =>
    cases h2 : firstB (choiceBad items ch) 0 ch.length with
    | some r => exact .inr (.inr rfl)
    | none => exact .inl rfl
theorem make_ok {items : List Itm} {p : Prf} {ch : List Chc} (h : (makeP items p ch).2.2 = 0) : firstB (itemBad items) 0 items.length = none ∧ firstB (choiceBad items ch) 0 ch.length = none ∧ makeP items p ch = (outP items p ch, 0, 0) := by
  unfold makeP at h ⊢
  cases h1 : firstB (itemBad items) 0 items.length with
  | some r => simp [h1] at h
  | none =>
    cases h2 : firstB (choiceBad items ch) 0 ch.length with
    | some r => simp [h1, h2] at h
    | none => exact ⟨rfl, rfl, rfl⟩
theorem make_nil_err (items : List Itm) (p : Prf) : (makeP items p []).2.2 = 0 ∨ (makeP items p []).2.2 = 91 := by
  unfold makeP
  cases firstB (itemBad items) 0 items.length with
  | some r => exact .inr rfl
  | none => exact .inl rfl
/-- a choice more -/
theorem make_choice {items : List Itm} {p : Prf} {ch : List Chc} {x : Chc} (h : (makeP items p (ch ++ [x])).2.2 = 0) :
    (makeP items p ch).2.2 = 0 ∧ (makeP items p (ch ++ [x])).1.length = (makeP items p ch).1.length ∧
      ∀ (i : Nat) (h1 : i < (makeP items p (ch ++ [x])).1.length) (h2 : i < (makeP items p ch).1.length),
        if (makeP items p (ch ++ [x])).1[i].path = x.path then (if x.act = 4 then (makeP items p (ch ++ [x])).1[i].act = 1 ∨ (makeP items p (ch ++ [x])).1[i].act = 2 else (makeP items p (ch ++ [x])).1[i].act = x.act)
        else (makeP items p (ch ++ [x])).1[i] = (makeP items p ch).1[i] := by
  obtain ⟨hi, hc, he⟩ := make_ok h
  rw [List.length_append, List.length_cons, List.length_nil, firstB_more ch.length 0 ch.length (by omega) (by omega), firstB_congr (q := choiceBad items ch) ch.length 0 ch.length (by omega) (fun j _ h2 => choiceBad_more h2)] at hc
  have hc2 : firstB (choiceBad items ch) 0 ch.length = none := by
    cases hq : firstB (choiceBad items ch) 0 ch.length with
    | some r => rw [hq] at hc; cases hc
    | none => rfl
  rw [hc2] at hc
  have hlast : choiceBad items (ch ++ [x]) ch.length = false := by
    cases hq : choiceBad items (ch ++ [x]) ch.length with
    | true => rw [hq] at hc; cases hc
    | false => rfl
  have hn : lookC ch x.path = none := by
    rw [choiceBad_at (by simp)] at hlast
    simp only [Bool.or_eq_false_iff] at hlast
    have := hlast.1
    simpa using this
  have he2 : makeP items p ch = (outP items p ch, 0, 0) := by unfold makeP; rw [hi]; simp only [hc2]
  rw [he, he2]
  have hs : ∀ s, lookC (ch ++ [x]) s = if x.path = s then some x.act else lookC ch s := fun s => by
    rw [lookC_snoc]
    by_cases e : x.path = s
    · rw [if_pos e, if_pos e, ← e, hn]; rfl
    · rw [if_neg e, if_neg e]; simp
  refine ⟨rfl, ?_, fun i h1 h2 => ?_⟩
  · show (outP items p (ch ++ [x])).length = (outP items p ch).length
    unfold outP; rw [List.length_map, List.length_map]
  · skip
    have g1 : ∀ c, (outP items p c)[i]? = ((items.filter fun x => decide (x.what ≠ 1))[i]?).map fun x => ⟨x.path, actP x.what (progP p.merge x.path) p (lookC c x.path)⟩ := fun c => by unfold outP; rw [List.getElem?_map]
    have g2 := g1 (ch ++ [x])
    have g3 := g1 ch
    rw [List.getElem?_eq_getElem h2] at g3
    rw [List.getElem?_eq_getElem h1] at g2
    cases hy : (items.filter fun x => decide (x.what ≠ 1))[i]? with
    | none => rw [hy] at g2; cases g2
    | some y =>
    rw [hy] at g2 g3
    injection g2 with g2
    injection g3 with g3
    show if (outP items p (ch ++ [x]))[i].path = x.path then _ else (outP items p (ch ++ [x]))[i] = (outP items p ch)[i]
    rw [g2, g3]
    simp only [hs]
    by_cases e : y.path = x.path
    · rw [if_pos e, if_pos e.symm]
      by_cases h4 : x.act = 4
      · rw [if_pos h4]
        unfold actP goes
        simp only [h4, if_true]
        split
        · exact .inr rfl
        · exact .inl rfl
      · rw [if_neg h4]
        unfold actP
        simp only [h4, if_false]
    · rw [if_neg e, if_neg (fun q => e q.symm)]
end Plain
end Go.Proofs.YtoifnnhbejofjaaDoor
end

/- Plain laws of profiles: what a text says, line by line; a profile's lines; what is printed is read back. No program in sight. -/
section
set_option linter.unusedVariables false
namespace Go.Proofs.YtoifnnhbejofjaaDoor
namespace Plain

def blanks : List UInt8 := [32, 9, 13]
def blk (c : UInt8) : Bool := c == 9 || c == 13 || c == 32
theorem blanks_has (c : UInt8) : blanks.contains c = blk c := by
  unfold blanks blk
  simp only [List.contains_cons, List.contains_nil, Bool.or_false]
  cases (c == 32) <;> cases (c == 9) <;> cases (c == 13) <;> rfl
def trimP (s : List UInt8) : List UInt8 := Lib.trimS s blanks
def wordOf (t : List UInt8) : List UInt8 := t.takeWhile (fun c => !blk c)
def cutP (s : List UInt8) : List UInt8 × List UInt8 := (wordOf (trimP s), trimP ((trimP s).drop (wordOf (trimP s)).length))
theorem trimS_alt (s : List UInt8) : trimP s = ((s.reverse.dropWhile blk).reverse).dropWhile blk := by
  unfold trimP Lib.trimS Lib.trimLeftS Lib.trimRightS
  rw [show (fun c => blanks.contains c) = blk from funext blanks_has]
theorem wordOf_le (t : List UInt8) : (wordOf t).length ≤ t.length := List.Sublist.length_le (List.takeWhile_sublist _)
theorem wordOf_take (t : List UInt8) : t.take (wordOf t).length = wordOf t := by
  unfold wordOf
  have := List.takeWhile_prefix (fun c => !blk c) (l := t)
  exact (List.prefix_iff_eq_take.1 this).symm

def wordP (s : List UInt8) : Bool := decide (1 ≤ s.length) && decide (s.length ≤ 16) && s.all (fun c => decide (97 ≤ c.toNat) && decide (c.toNat ≤ 122))
def sideP (s : List UInt8) : Int := if s = [97] then 1 else if s = [98] then 2 else 0

structure PF where
  ign : List Rule
  bak : List Rule
  mrg : List Prg
  pre : Int
  frc : Int
  bat : Bool
  fst : Bool
def PF0 : PF := ⟨[], [], [], 0, 0, false, false⟩
structure Txt where
  name : List UInt8
  text : List UInt8

def wIgnore : List UInt8 := [105, 103, 110, 111, 114, 101]
def wKeep : List UInt8 := [107, 101, 101, 112]
def wBackup : List UInt8 := [98, 97, 99, 107, 117, 112]
def wDrop : List UInt8 := [100, 114, 111, 112]
def wMerge : List UInt8 := [109, 101, 114, 103, 101]
def wPrefer : List UInt8 := [112, 114, 101, 102, 101, 114]
def wForce : List UInt8 := [102, 111, 114, 99, 101]
def wBatch : List UInt8 := [98, 97, 116, 99, 104]
def wFast : List UInt8 := [102, 97, 115, 116]
def wInclude : List UInt8 := [105, 110, 99, 108, 117, 100, 101]

def okPat (s : List UInt8) : Bool := decide ((checkP 400 s).2 = 0)
/-- a profile, and a line more that includes nothing -/
def saysP (p : PF) (w a : List UInt8) : Option PF :=
  if w = wIgnore ∨ w = wKeep then (if okPat a = true ∧ p.ign.length < 100 then some { p with ign := p.ign ++ [⟨a, decide (w = wIgnore)⟩] } else none)
  else if w = wBackup ∨ w = wDrop then (if okPat a = true ∧ p.bak.length < 100 then some { p with bak := p.bak ++ [⟨a, decide (w = wBackup)⟩] } else none)
  else if w = wMerge then (if okPat (cutP a).2 = true ∧ wordP (cutP a).1 = true ∧ p.mrg.length < 100 then some { p with mrg := p.mrg ++ [⟨(cutP a).1, (cutP a).2⟩] } else none)
  else if w = wPrefer then (if sideP a ≠ 0 then some { p with pre := sideP a } else none)
  else if w = wForce then (if sideP a ≠ 0 then some { p with frc := sideP a } else none)
  else if w = wBatch then (if a = [] then some { p with bat := true } else none)
  else if w = wFast then (if a = [] then some { p with fst := true } else none)
  else none

def findT (T : List Txt) (n : List UInt8) : Option Nat := T.findIdx? (fun t => t.name == n)
def decL (n : Nat) : List UInt8 := Lib.decDigits n
/-- where, and which fault -/
abbrev Res := Except (Txt × Nat) PF
def lineP (rec : List UInt8 → PF → Res) (T : List Txt) (inside : List (List UInt8)) (name : List UInt8) (k : Nat) (l : List UInt8) (p : PF) : Res :=
  if (cutP l).1 = [] ∨ (cutP l).1.head? = some 35 then .ok p
  else if (cutP l).1 ≠ wInclude then (match saysP p (cutP l).1 (cutP l).2 with
    | some q => .ok q
    | none => .error (⟨name, decL (k + 1)⟩, 80))
  else match findT T (cutP l).2 with
    | none => .error (⟨name, decL (k + 1)⟩, 82)
    | some _ => if inside.contains (cutP l).2 = true then .error (⟨name, decL (k + 1)⟩, 81) else if 8 ≤ inside.length then .error (⟨name, decL (k + 1)⟩, 80) else rec (cutP l).2 p
def linesP (rec : List UInt8 → PF → Res) (T : List Txt) (inside : List (List UInt8)) (name : List UInt8) : Nat → List (List UInt8) → PF → Res
  | _, [], p => .ok p
  | k, l :: r, p => match lineP rec T inside name k l p with
    | .ok q => linesP rec T inside name (k + 1) r q
    | .error e => .error e
def readP (T : List Txt) : Nat → List (List UInt8) → List UInt8 → PF → Res
  | 0, _, _, p => .ok p
  | d + 1, inside, name, p => match findT T name with
    | none => .ok p
    | some i => if 65536 < (T.getD i ⟨[], []⟩).text.length then .error (⟨name, [48]⟩, 1) else linesP (readP T d (inside ++ [name])) T (inside ++ [name]) name 0 (cutAt 10 [] (T.getD i ⟨[], []⟩).text) p
def parseP (T : List Txt) (name : List UInt8) : PF × Txt × Nat := match findT T name with
  | none => (PF0, ⟨name, [48]⟩, 82)
  | some _ => match readP T 8 [] name PF0 with
    | .ok p => (p, ⟨[], []⟩, 0)
    | .error e => (PF0, e.1, e.2)

theorem linesP_cons (rec : List UInt8 → PF → Res) (T : List Txt) (inside : List (List UInt8)) (name : List UInt8) (k : Nat) (l : List UInt8) (r : List (List UInt8)) (p : PF) :
    linesP rec T inside name k (l :: r) p = match lineP rec T inside name k l p with
      | .ok q => linesP rec T inside name (k + 1) r q
      | .error e => .error e := rfl
theorem lineP_skip {rec : List UInt8 → PF → Res} {T : List Txt} {inside : List (List UInt8)} {name : List UInt8} {k : Nat} {l : List UInt8} {p : PF} (h : (cutP l).1 = [] ∨ (cutP l).1.head? = some 35) : lineP rec T inside name k l p = .ok p := by
  unfold lineP; rw [if_pos h]
theorem lineP_says {rec : List UInt8 → PF → Res} {T : List Txt} {inside : List (List UInt8)} {name : List UInt8} {k : Nat} {l : List UInt8} {p : PF} (h : ¬ ((cutP l).1 = [] ∨ (cutP l).1.head? = some 35)) (h2 : (cutP l).1 ≠ wInclude) :
    lineP rec T inside name k l p = match saysP p (cutP l).1 (cutP l).2 with
      | some q => .ok q
      | none => .error (⟨name, decL (k + 1)⟩, 80) := by
  unfold lineP; rw [if_neg h, if_pos h2]
def incN (T : List Txt) (inside : List (List UInt8)) (a : List UInt8) : Nat := match findT T a with
  | none => 82
  | some _ => if inside.contains a = true then 81 else if 8 ≤ inside.length then 80 else 0
theorem lineP_inc {rec : List UInt8 → PF → Res} {T : List Txt} {inside : List (List UInt8)} {name : List UInt8} {k : Nat} {l : List UInt8} {p : PF} (h2 : (cutP l).1 = wInclude) :
    lineP rec T inside name k l p = if incN T inside (cutP l).2 ≠ 0 then .error (⟨name, decL (k + 1)⟩, incN T inside (cutP l).2) else rec (cutP l).2 p := by
  unfold lineP incN
  rw [h2, if_neg (by decide), if_neg (by simp)]
  cases findT T (cutP l).2 with
  | none => rfl
  | some i =>
    simp only
    cases inside.contains (cutP l).2 with
    | true => rfl
    | false =>
      simp only [Bool.false_eq_true, if_false]
      by_cases h8 : 8 ≤ inside.length
      · rw [if_pos h8, if_pos h8, if_pos (by decide)]
      · rw [if_neg h8, if_neg h8, if_neg (by decide)]
theorem incN_zero {T : List Txt} {inside : List (List UInt8)} {a : List UInt8} (h : incN T inside a = 0) : findT T a ≠ none ∧ inside.length < 8 := by
  unfold incN at h
  cases hf : findT T a with
  | none => rw [hf] at h; cases h
  | some i =>
    rw [hf] at h
    simp only at h
    split at h
    · cases h
    · split at h
      · cases h
      · exact ⟨by simp, by omega⟩
theorem linesP_append (rec : List UInt8 → PF → Res) (T : List Txt) (inside : List (List UInt8)) (name : List UInt8) : ∀ (a b : List (List UInt8)) (k : Nat) (p : PF),
    linesP rec T inside name k (a ++ b) p = match linesP rec T inside name k a p with
      | .ok q => linesP rec T inside name (k + a.length) b q
      | .error e => .error e
  | [], b, k, p => rfl
  | l :: a, b, k, p => by
    rw [List.cons_append, linesP_cons, linesP_cons]
    cases lineP rec T inside name k l p with
    | error e => rfl
    | ok q =>
      show linesP rec T inside name (k + 1) (a ++ b) q = _
      rw [linesP_append rec T inside name a b (k + 1) q]
      simp only [List.length_cons]
      rw [show k + 1 + a.length = k + (a.length + 1) by omega]

/-! a line that includes nothing says the same in whatever text -/
/-- what lines say that include nothing -/
def plainP : List (List UInt8) → PF → Option PF
  | [], p => some p
  | l :: r, p => if (cutP l).1 = [] ∨ (cutP l).1.head? = some 35 then plainP r p else if (cutP l).1 = wInclude then none else match saysP p (cutP l).1 (cutP l).2 with
    | some q => plainP r q
    | none => none
theorem plainP_cons (l : List UInt8) (r : List (List UInt8)) (p : PF) : plainP (l :: r) p = if (cutP l).1 = [] ∨ (cutP l).1.head? = some 35 then plainP r p else if (cutP l).1 = wInclude then none else match saysP p (cutP l).1 (cutP l).2 with
    | some q => plainP r q
    | none => none := rfl
theorem lines_of_plain (rec : List UInt8 → PF → Res) (T : List Txt) (inside : List (List UInt8)) (name : List UInt8) : ∀ (l : List (List UInt8)) (k : Nat) (p q : PF), plainP l p = some q → linesP rec T inside name k l p = .ok q
  | [], k, p, q, h => by simp only [plainP, Option.some.injEq] at h; rw [h]; rfl
  | l :: r, k, p, q, h => by
    rw [linesP_cons]
    unfold plainP at h
    unfold lineP
    by_cases h1 : (cutP l).1 = [] ∨ (cutP l).1.head? = some 35
    · rw [if_pos h1] at h ⊢
      exact lines_of_plain rec T inside name r (k + 1) p q h
    · rw [if_neg h1] at h ⊢
      by_cases h2 : (cutP l).1 = wInclude
      · rw [if_pos h2] at h; cases h
      · rw [if_neg h2] at h
        rw [if_pos h2]
        cases hs : saysP p (cutP l).1 (cutP l).2 with
        | none => rw [hs] at h; cases h
        | some u =>
          rw [hs] at h
          exact lines_of_plain rec T inside name r (k + 1) u q h
/-- the other way round, where there is but one text, which is being read -/
theorem plain_of_lines (rec : List UInt8 → PF → Res) (x : Txt) (inside : List (List UInt8)) (hin : inside.contains x.name = true) : ∀ (l : List (List UInt8)) (k : Nat) (p q : PF), linesP rec [x] inside x.name k l p = .ok q → plainP l p = some q
  | [], k, p, q, h => by simp only [linesP, Except.ok.injEq] at h; rw [← h]; rfl
  | l :: r, k, p, q, h => by
    rw [linesP_cons] at h
    unfold plainP
    unfold lineP at h
    by_cases h1 : (cutP l).1 = [] ∨ (cutP l).1.head? = some 35
    · rw [if_pos h1] at h ⊢
      exact plain_of_lines rec x inside hin r (k + 1) p q h
    · rw [if_neg h1] at h ⊢
      by_cases h2 : (cutP l).1 = wInclude
      · rw [if_neg (by simpa using h2)] at h
        exfalso
        unfold findT at h
        rw [List.findIdx?_cons] at h
        by_cases h3 : (x.name == (cutP l).2) = true
        · rw [if_pos h3] at h
          have h4 : x.name = (cutP l).2 := by simpa using h3
          rw [← h4] at h
          simp only [hin, if_true] at h
          cases h
        · rw [if_neg h3] at h
          cases h
      · rw [if_neg h2]
        rw [if_pos h2] at h
        cases hs : saysP p (cutP l).1 (cutP l).2 with
        | none => rw [hs] at h; cases h
        | some u =>
          rw [hs] at h
          exact plain_of_lines rec x inside hin r (k + 1) u q h
theorem plainP_append : ∀ (a b : List (List UInt8)) (p : PF), plainP (a ++ b) p = (plainP a p).bind (plainP b)
  | [], b, p => rfl
  | l :: a, b, p => by
    rw [List.cons_append]
    unfold plainP
    by_cases h1 : (cutP l).1 = [] ∨ (cutP l).1.head? = some 35
    · rw [if_pos h1, if_pos h1]; exact plainP_append a b p
    · rw [if_neg h1, if_neg h1]
      by_cases h2 : (cutP l).1 = wInclude
      · rw [if_pos h2, if_pos h2]; rfl
      · rw [if_neg h2, if_neg h2]
        cases saysP p (cutP l).1 (cutP l).2 with
        | none => rfl
        | some u => exact plainP_append a b u

/-! a fault has a number -/
theorem lineP_err {rec : List UInt8 → PF → Res} (hrec : ∀ a p e, rec a p = .error e → e.2 ≠ 0) {T : List Txt} {inside : List (List UInt8)} {name : List UInt8} {k : Nat} {l : List UInt8} {p : PF} {e : Txt × Nat} (h : lineP rec T inside name k l p = .error e) : e.2 ≠ 0 := by
  unfold lineP at h
  split at h
  · cases h
  · split at h
    · split at h
      · cases h
      · injection h with h; subst h; exact (by decide : (80 : Nat) ≠ 0)
    · split at h
      · injection h with h; subst h; exact (by decide : (82 : Nat) ≠ 0)
      · split at h
        · injection h with h; subst h; exact (by decide : (81 : Nat) ≠ 0)
        · split at h
          · injection h with h; subst h; exact (by decide : (80 : Nat) ≠ 0)
          · exact hrec _ _ _ h
theorem linesP_err {rec : List UInt8 → PF → Res} (hrec : ∀ a p e, rec a p = .error e → e.2 ≠ 0) {T : List Txt} {inside : List (List UInt8)} {name : List UInt8} : ∀ {l : List (List UInt8)} {k : Nat} {p : PF} {e : Txt × Nat}, linesP rec T inside name k l p = .error e → e.2 ≠ 0
  | [], k, p, e, h => by cases h
  | l :: r, k, p, e, h => by
    rw [linesP_cons] at h
    cases hl : lineP rec T inside name k l p with
    | error u => rw [hl] at h; injection h with h; subst h; exact lineP_err hrec hl
    | ok q => rw [hl] at h; exact linesP_err hrec h
theorem readP_err (T : List Txt) : ∀ (d : Nat) (inside : List (List UInt8)) (name : List UInt8) (p : PF) (e : Txt × Nat), readP T d inside name p = .error e → e.2 ≠ 0
  | 0, inside, name, p, e, h => by cases h
  | d + 1, inside, name, p, e, h => by
    unfold readP at h
    split at h
    · cases h
    · split at h
      · injection h with h; subst h; exact (by decide : (1 : Nat) ≠ 0)
      · exact linesP_err (fun a p e h => readP_err T d _ a p e h) h

/-! ProfIncludes: to include a text is to say its lines there -/
theorem cutAt_two (c : UInt8) (a b : List UInt8) : cutAt c [] (a ++ c :: b) = cutAt c [] a ++ cutAt c [] b := by
  induction a with
  | nil => simp [cutAt]
  | cons x a ih =>
    rw [List.cons_append, cutAt_cons, cutAt_cons, ih]
    by_cases e : x = c
    · rw [if_pos e, if_pos e]; rfl
    · rw [if_neg e, if_neg e]
      have := cutAt_ne c [] a
      cases h : cutAt c [] a with
      | nil => exact absurd h this
      | cons u v => rfl
def nx : List UInt8 := [120]
def ny : List UInt8 := [121]
def incL : List UInt8 := wInclude ++ [32, 121]
theorem cut_inc : cutP incL = (wInclude, ny) := by decide
theorem wInclude_ne : ¬ (wInclude = [] ∨ wInclude.head? = some 35) := by decide
theorem includes_law (a i b : List UInt8) (hl : a.length + i.length + b.length ≤ 9000)
    (hf : (parseP [⟨nx, a ++ [10] ++ i ++ [10] ++ b⟩] nx).2.2 = 0) : parseP [⟨nx, a ++ 10 :: incL ++ [10] ++ b⟩, ⟨ny, i⟩] nx = parseP [⟨nx, a ++ [10] ++ i ++ [10] ++ b⟩] nx := by
  have e2 : a ++ [10] ++ i ++ [10] ++ b = a ++ 10 :: (i ++ 10 :: b) := by simp
  have e1 : a ++ 10 :: incL ++ [10] ++ b = a ++ 10 :: (incL ++ 10 :: b) := by simp
  rw [e2] at hf ⊢
  rw [e1]
  clear e1 e2
  have f2 : findT [⟨nx, a ++ 10 :: (i ++ 10 :: b)⟩] nx = some 0 := by unfold findT; rw [List.findIdx?_cons]; simp
  have f1 : findT [⟨nx, a ++ 10 :: (incL ++ 10 :: b)⟩, ⟨ny, i⟩] nx = some 0 := by unfold findT; rw [List.findIdx?_cons]; simp
  have fy : findT [⟨nx, a ++ 10 :: (incL ++ 10 :: b)⟩, ⟨ny, i⟩] ny = some 1 := by
    unfold findT; rw [List.findIdx?_cons, List.findIdx?_cons, if_neg (show ¬ ((nx == ny) = true) by decide), if_pos (show (ny == ny) = true by decide)]; rfl
  unfold parseP at hf ⊢
  rw [f2] at hf
  rw [f1, f2]
  simp only at hf ⊢
  have r2 : readP [⟨nx, a ++ 10 :: (i ++ 10 :: b)⟩] 8 [] nx PF0 = linesP (readP [⟨nx, a ++ 10 :: (i ++ 10 :: b)⟩] 7 [nx]) [⟨nx, a ++ 10 :: (i ++ 10 :: b)⟩] [nx] nx 0 (cutAt 10 [] a ++ (cutAt 10 [] i ++ cutAt 10 [] b)) PF0 := by
    unfold readP
    rw [f2]
    simp only [List.getD_cons_zero, List.nil_append]
    rw [if_neg (by simp; omega), cutAt_two, cutAt_two]
  have r1 : readP [⟨nx, a ++ 10 :: (incL ++ 10 :: b)⟩, ⟨ny, i⟩] 8 [] nx PF0 = linesP (readP [⟨nx, a ++ 10 :: (incL ++ 10 :: b)⟩, ⟨ny, i⟩] 7 [nx]) [⟨nx, a ++ 10 :: (incL ++ 10 :: b)⟩, ⟨ny, i⟩] [nx] nx 0 (cutAt 10 [] a ++ (incL :: cutAt 10 [] b)) PF0 := by
    rw [readP]
    rw [f1]
    simp only [List.getD_cons_zero, List.nil_append]
    rw [if_neg (by simp [incL, wInclude]; omega), cutAt_two, cutAt_first 10 [] incL b (by decide), List.append_nil]
  cases h2 : readP [⟨nx, a ++ 10 :: (i ++ 10 :: b)⟩] 8 [] nx PF0 with
  | error e => rw [h2] at hf; exact absurd hf (readP_err _ _ _ _ _ _ h2)
  | ok q =>
    rw [r2] at h2
    have hp := plain_of_lines _ ⟨nx, a ++ 10 :: (i ++ 10 :: b)⟩ [nx] (show [nx].contains nx = true by decide) _ _ _ _ h2
    rw [plainP_append] at hp
    cases ha : plainP (cutAt 10 [] a) PF0 with
    | none => rw [ha] at hp; cases hp
    | some u =>
      rw [ha] at hp
      simp only [Option.bind_some] at hp
      rw [plainP_append] at hp
      cases hi : plainP (cutAt 10 [] i) u with
      | none => rw [hi] at hp; cases hp
      | some v =>
        rw [hi] at hp
        simp only [Option.bind_some] at hp
        rw [r1, linesP_append, lines_of_plain _ _ _ _ _ _ _ _ ha]
        simp only
        rw [linesP_cons]
        have hln : lineP (readP [⟨nx, a ++ 10 :: (incL ++ 10 :: b)⟩, ⟨ny, i⟩] 7 [nx]) [⟨nx, a ++ 10 :: (incL ++ 10 :: b)⟩, ⟨ny, i⟩] [nx] nx (0 + (cutAt 10 [] a).length) incL u = .ok v := by
          unfold lineP
          rw [cut_inc]
          simp only
          rw [if_neg wInclude_ne, if_neg (by simp), fy]
          simp only
          rw [if_neg (by decide), if_neg (by decide)]
          rw [readP, fy]
          simp only [List.getD_cons_succ, List.getD_cons_zero]
          rw [if_neg (by omega)]
          exact lines_of_plain _ _ _ _ _ _ _ _ hi
        rw [hln]
        simp only
        rw [lines_of_plain _ _ _ _ _ _ _ _ hp]

/-! a profile's lines -/
def okNat (n : Int) : Bool := decide (n = 0) || decide (n = 1) || decide (n = 2)
def plainS (s : List UInt8) : Bool := okPat s && !s.contains 10 && decide (trimP s = s)
def ruleL (yes no : List UInt8) (r : Rule) : List UInt8 := (if r.ign then yes else no) ++ [32] ++ r.pat ++ [10]
def rulesL (yes no : List UInt8) (l : List Rule) : List UInt8 := l.flatMap (ruleL yes no)
def progL (m : Prg) : List UInt8 := wMerge ++ [32] ++ m.name ++ [32] ++ m.pat ++ [10]
def progsL (l : List Prg) : List UInt8 := l.flatMap progL
def sidedL (w : List UInt8) (n : Int) : List UInt8 := if n = 1 then w ++ [32, 97, 10] else if n = 2 then w ++ [32, 98, 10] else []
def headL (p : PF) : List UInt8 := (if p.bat then wBatch ++ [10] else []) ++ (if p.fst then wFast ++ [10] else [])
def okRules (l : List Rule) : Bool := decide (l.length ≤ 100) && l.all (fun r => plainS r.pat)
def okProgs (l : List Prg) : Bool := decide (l.length ≤ 100) && l.all (fun m => wordP m.name && plainS m.pat)
def printable (p : PF) : Bool := okNat p.pre && okNat p.frc && okRules p.ign && okRules p.bak && okProgs p.mrg
def textP (p : PF) : List UInt8 := headL p ++ sidedL wPrefer p.pre ++ sidedL wForce p.frc ++ rulesL wIgnore wKeep p.ign ++ rulesL wBackup wDrop p.bak ++ progsL p.mrg
def printP (p : PF) : List UInt8 × Nat := if printable p = true then (textP p, 0) else ([], 80)

/-! what is printed is read back -/
theorem blk_ne {c : UInt8} (h : 97 ≤ c.toNat) : blk c = false := by
  unfold blk
  have : ∀ n : Nat, n < 97 → (c == UInt8.ofNat n) = false := by
    intro n hn
    rw [beq_eq_false_iff_ne]
    intro e
    rw [e] at h
    simp at h
    omega
  have a := this 9 (by omega)
  have b := this 13 (by omega)
  have d := this 32 (by omega)
  simp only [UInt8.reduceOfNat] at a b d
  rw [a, b, d]; rfl
/-- no blank at either end -/
def Trimmed (s : List UInt8) : Prop := (∀ c, s.head? = some c → blk c = false) ∧ (∀ c, s.getLast? = some c → blk c = false)
theorem dropWhile_id {p : UInt8 → Bool} {s : List UInt8} (h : ∀ c, s.head? = some c → p c = false) : s.dropWhile p = s := by
  cases s with
  | nil => rfl
  | cons c r => rw [List.dropWhile_cons, if_neg (by rw [h c rfl]; decide)]
theorem trim_id {s : List UInt8} (h : Trimmed s) : trimP s = s := by
  rw [trimS_alt]
  have h1 : s.reverse.dropWhile blk = s.reverse := dropWhile_id (fun c hc => h.2 c (by rw [List.head?_reverse] at hc; exact hc))
  rw [h1, List.reverse_reverse]
  exact dropWhile_id h.1
theorem dropWhile_head {p : UInt8 → Bool} : ∀ (s : List UInt8) (c : UInt8), (s.dropWhile p).head? = some c → p c = false
  | [], c, h => by cases h
  | x :: r, c, h => by
    rw [List.dropWhile_cons] at h
    split at h
    · exact dropWhile_head r c h
    · rename_i hx
      simp only [List.head?_cons, Option.some.injEq] at h
      subst h
      simpa using hx
theorem dropWhile_last {p : UInt8 → Bool} : ∀ (s : List UInt8) (c : UInt8), (s.dropWhile p).getLast? = some c → s.getLast? = some c
  | [], c, h => by cases h
  | x :: r, c, h => by
    rw [List.dropWhile_cons] at h
    split at h
    · have := dropWhile_last r c h
      cases r with
      | nil => cases this
      | cons y r => rw [List.getLast?_cons_cons]; exact this
    · exact h
theorem trimmed_trim (s : List UInt8) : Trimmed (trimP s) := by
  rw [trimS_alt]
  refine ⟨fun c hc => dropWhile_head _ c hc, fun c hc => ?_⟩
  have := dropWhile_last _ c hc
  rw [List.getLast?_reverse] at this
  exact dropWhile_head _ c this
theorem trimmed_of {s : List UInt8} (h : trimP s = s) : Trimmed s := h ▸ trimmed_trim s
theorem head_append {a b : List UInt8} {c : UInt8} (h : (a ++ b).head? = some c) (ha : a ≠ []) : a.head? = some c := by
  cases a with
  | nil => exact absurd rfl ha
  | cons x r => exact h
theorem last_append {a b : List UInt8} {c : UInt8} (h : (a ++ b).getLast? = some c) (hb : b ≠ []) : b.getLast? = some c := by
  rw [List.getLast?_append] at h
  cases hl : b.getLast? with
  | none => rw [List.getLast?_eq_none_iff] at hl; exact absurd hl hb
  | some x => rw [hl] at h; exact h
theorem head_mem {s : List UInt8} {c : UInt8} (h : s.head? = some c) : c ∈ s := by
  cases s with
  | nil => cases h
  | cons x r => simp only [List.head?_cons, Option.some.injEq] at h; subst h; simp
/-- a word and, behind a blank, a text that is trimmed -/
theorem cut_word {w a : List UInt8} (hw : w ≠ []) (hb : ∀ c ∈ w, blk c = false) (ha : a ≠ []) (ht : Trimmed a) : cutP (w ++ [32] ++ a) = (w, a) := by
  have h1 : trimP (w ++ [32] ++ a) = w ++ [32] ++ a := trim_id ⟨fun c hc => by
      rw [List.append_assoc] at hc
      exact hb c (head_mem (head_append hc hw)), fun c hc => ht.2 c (last_append hc ha)⟩
  have h2 : wordOf (w ++ [32] ++ a) = w := by
    unfold wordOf
    rw [List.append_assoc, List.takeWhile_append_of_pos (fun c hc => by rw [hb c hc]; rfl)]
    simp [blk]
  unfold cutP
  rw [h1, h2, List.append_assoc, List.drop_left]
  congr 1
  rw [trimS_alt]
  have e1 : ([32] ++ a).reverse.dropWhile blk = a.reverse ++ [32] := by
    rw [List.reverse_append]
    refine dropWhile_id (fun c hc => ?_)
    have := head_append hc (by simpa using ha)
    rw [List.head?_reverse] at this
    exact ht.2 c this
  rw [e1, List.reverse_append, List.reverse_reverse]
  show (32 :: a).dropWhile blk = a
  rw [List.dropWhile_cons, if_pos (by decide)]
  exact dropWhile_id ht.1
theorem cut_alone {w : List UInt8} (hw : w ≠ []) (hb : ∀ c ∈ w, blk c = false) : cutP w = (w, []) := by
  have h1 : trimP w = w := trim_id ⟨fun c hc => hb c (head_mem hc), fun c hc => hb c (List.mem_of_getLast? hc)⟩
  have h2 : wordOf w = w := by
    unfold wordOf
    have : w.takeWhile (fun c => !blk c) = (w ++ []).takeWhile (fun c => !blk c) := by rw [List.append_nil]
    rw [this, List.takeWhile_append_of_pos (fun c hc => by rw [hb c hc]; rfl)]
    simp
  unfold cutP
  rw [h1, h2, List.drop_length]
  rfl
theorem okPat_ne {s : List UInt8} (h : okPat s = true) : s ≠ [] := by
  intro e
  subst e
  unfold okPat at h
  rw [checkP_long (.inl rfl)] at h
  exact absurd h (by decide)
theorem plainS_parts {s : List UInt8} (h : plainS s = true) : okPat s = true ∧ (10 : UInt8) ∉ s ∧ Trimmed s ∧ s ≠ [] := by
  unfold plainS at h
  simp only [Bool.and_eq_true, Bool.not_eq_true', decide_eq_true_eq] at h
  refine ⟨h.1.1, ?_, trimmed_of h.2, okPat_ne h.1.1⟩
  rw [← List.contains_iff_mem, h.1.2]; decide
theorem wordP_parts {s : List UInt8} (h : wordP s = true) : s ≠ [] ∧ (10 : UInt8) ∉ s ∧ ∀ c ∈ s, blk c = false := by
  unfold wordP at h
  simp only [Bool.and_eq_true, decide_eq_true_eq, List.all_eq_true] at h
  refine ⟨fun e => by subst e; simp at h, fun hm => ?_, fun c hc => blk_ne (h.2 c hc).1⟩
  have := (h.2 _ hm).1
  simp at this
/-- the lines behind one that ends -/
theorem cutAt_line {l : List UInt8} (h : (10 : UInt8) ∉ l) (r : List UInt8) : cutAt 10 [] (l ++ [10] ++ r) = l :: cutAt 10 [] r := by
  rw [List.append_assoc, List.singleton_append, cutAt_first 10 [] l r h, List.append_nil]
/-- a line that is read -/
theorem plainP_line {l : List UInt8} {w a : List UInt8} {r : List (List UInt8)} {p q : PF} (hc : cutP l = (w, a)) (hw : w ≠ []) (h35 : w.head? ≠ some 35) (hi : w ≠ wInclude) (hs : saysP p w a = some q) : plainP (l :: r) p = plainP r q := by
  rw [plainP_cons, hc]
  simp only
  rw [if_neg (by rintro (h | h); exact hw h; exact h35 h), if_neg hi, hs]
theorem lines_rules (y n : List UInt8) (upd : PF → List Rule → PF) (get : PF → List Rule)
    (hsay : ∀ p r, okPat r.pat = true → (get p).length < 100 → saysP p (if r.ign then y else n) r.pat = some (upd p (get p ++ [r])))
    (hy : y ≠ [] ∧ y.head? ≠ some 35 ∧ y ≠ wInclude ∧ (10 : UInt8) ∉ y ∧ ∀ c ∈ y, blk c = false) (hn : n ≠ [] ∧ n.head? ≠ some 35 ∧ n ≠ wInclude ∧ (10 : UInt8) ∉ n ∧ ∀ c ∈ n, blk c = false)
    (hget : ∀ p l, get (upd p l) = l) (hupd : ∀ p l m, upd (upd p l) m = upd p m) :
    ∀ (l : List Rule) (p : PF) (rest : List UInt8), (∀ r ∈ l, plainS r.pat = true) → (get p).length + l.length ≤ 100 → upd p (get p) = p → plainP (cutAt 10 [] (rulesL y n l ++ rest)) p = plainP (cutAt 10 [] rest) (upd p (get p ++ l))
  | [], p, rest, _, _, hp => by simp only [rulesL, List.flatMap_nil, List.nil_append, List.append_nil]; rw [hp]
  | r :: l, p, rest, hl, hlen, hp => by
    have hr := plainS_parts (hl r (by simp))
    have hw : (if r.ign then y else n) ≠ [] ∧ (if r.ign then y else n).head? ≠ some 35 ∧ (if r.ign then y else n) ≠ wInclude ∧ (10 : UInt8) ∉ (if r.ign then y else n) ∧ ∀ c ∈ (if r.ign then y else n), blk c = false := by cases r.ign; exact hn; exact hy
    have hs := hsay p r hr.1 (by simp at hlen; omega)
    have e : rulesL y n (r :: l) ++ rest = ((if r.ign then y else n) ++ [32] ++ r.pat) ++ [10] ++ (rulesL y n l ++ rest) := by
      show (ruleL y n r ++ rulesL y n l) ++ rest = _
      unfold ruleL
      simp only [List.append_assoc]
    generalize (if r.ign then y else n) = w at *
    have h10 : (10 : UInt8) ∉ w ++ [32] ++ r.pat := by
      intro hm
      rcases List.mem_append.1 hm with hm | hm
      · rcases List.mem_append.1 hm with hm | hm
        · exact hw.2.2.2.1 hm
        · simp at hm
      · exact hr.2.1 hm
    rw [e, cutAt_line h10, plainP_line (cut_word hw.1 hw.2.2.2.2 hr.2.2.2 hr.2.2.1) hw.1 hw.2.1 hw.2.2.1 hs]
    rw [lines_rules y n upd get hsay hy hn hget hupd l _ rest (fun r hr => hl r (by simp [hr])) (by rw [hget]; simp at hlen ⊢; omega) (by rw [hget, hupd]), hget, hupd]
    simp
theorem lines_progs : ∀ (l : List Prg) (p : PF), (∀ m ∈ l, wordP m.name = true ∧ plainS m.pat = true) → p.mrg.length + l.length ≤ 100 → plainP (cutAt 10 [] (progsL l)) p = some { p with mrg := p.mrg ++ l }
  | [], p, _, _ => by
    have : plainP [[]] p = some p := by
      unfold plainP
      rw [if_pos (.inl (by decide))]; rfl
    simpa [progsL, cutAt] using this
  | m :: l, p, hl, hlen => by
    have hm := hl m (by simp)
    have hw := wordP_parts hm.1
    have hp := plainS_parts hm.2
    have e : progsL (m :: l) = (wMerge ++ [32] ++ (m.name ++ [32] ++ m.pat)) ++ [10] ++ progsL l := by
      show progL m ++ progsL l = _
      unfold progL
      simp only [List.append_assoc]
    have hta : Trimmed (m.name ++ [32] ++ m.pat) := ⟨fun c hc => by
        rw [List.append_assoc] at hc
        exact hw.2.2 c (head_mem (head_append hc hw.1)), fun c hc => hp.2.2.1.2 c (last_append hc hp.2.2.2)⟩
    have h10 : (10 : UInt8) ∉ wMerge ++ [32] ++ (m.name ++ [32] ++ m.pat) := by
      intro h
      simp only [List.mem_append, List.mem_singleton] at h
      rcases h with (h | h) | (h | h) | h
      · revert h; decide
      · revert h; decide
      · exact hw.2.1 h
      · revert h; decide
      · exact hp.2.1 h
    have hs : saysP p wMerge (m.name ++ [32] ++ m.pat) = some { p with mrg := p.mrg ++ [m] } := by
      unfold saysP
      rw [if_neg (by decide), if_neg (by decide), if_pos rfl, cut_word hw.1 hw.2.2 hp.2.2.2 hp.2.2.1, if_pos ⟨hp.1, hm.1, by simp at hlen; omega⟩]
    rw [e, cutAt_line h10, plainP_line (cut_word (by decide) (by decide) (by simp) hta) (by decide) (by decide) (by decide) hs,
      lines_progs l _ (fun m h => hl m (by simp [h])) (by simp at hlen ⊢; omega)]
    simp
theorem lines_sided (w : List UInt8) (upd : PF → Int → PF) (hsay : ∀ p a, sideP a ≠ 0 → saysP p w a = some (upd p (sideP a))) (hw : w ≠ [] ∧ w.head? ≠ some 35 ∧ w ≠ wInclude ∧ (10 : UInt8) ∉ w ∧ ∀ c ∈ w, blk c = false)
    (n : Int) (hn : okNat n = true) (p : PF) (rest : List UInt8) (h0 : upd p 0 = p) : plainP (cutAt 10 [] (sidedL w n ++ rest)) p = plainP (cutAt 10 [] rest) (upd p n) := by
  have hone : ∀ c : UInt8, sideP [c] ≠ 0 → blk c = false → c ≠ 10 → plainP (cutAt 10 [] ((w ++ [32, c, 10]) ++ rest)) p = plainP (cutAt 10 [] rest) (upd p (sideP [c])) := by
    intro c hc hb h10
    have e : w ++ [32, c, 10] ++ rest = (w ++ [32] ++ [c]) ++ [10] ++ rest := by simp
    have h10' : (10 : UInt8) ∉ w ++ [32] ++ [c] := by
      intro h
      simp only [List.mem_append, List.mem_singleton] at h
      rcases h with (h | h) | h
      · exact hw.2.2.2.1 h
      · revert h; decide
      · exact h10 h.symm
    rw [e, cutAt_line h10', plainP_line (cut_word hw.1 hw.2.2.2.2 (by simp) ⟨fun d hd => by simp at hd; subst hd; exact hb, fun d hd => by simp at hd; subst hd; exact hb⟩) hw.1 hw.2.1 hw.2.2.1 (hsay p [c] hc)]
  unfold okNat at hn
  simp only [Bool.or_eq_true, decide_eq_true_eq] at hn
  rcases hn with (rfl | rfl) | rfl
  · unfold sidedL
    rw [if_neg (by decide), if_neg (by decide), h0]; rfl
  · unfold sidedL
    rw [if_pos rfl]; exact hone 97 (by decide) (by decide) (by decide)
  · unfold sidedL
    rw [if_neg (by decide), if_pos rfl]; exact hone 98 (by decide) (by decide) (by decide)
theorem lines_flag (w : List UInt8) (q : PF) (p : PF) (rest : List UInt8) (hsay : saysP p w [] = some q) (hw : w ≠ [] ∧ w.head? ≠ some 35 ∧ w ≠ wInclude ∧ (10 : UInt8) ∉ w ∧ ∀ c ∈ w, blk c = false) :
    plainP (cutAt 10 [] (w ++ [10] ++ rest)) p = plainP (cutAt 10 [] rest) q := by
  rw [cutAt_line hw.2.2.2.1, plainP_line (cut_alone hw.1 hw.2.2.2.2) hw.1 hw.2.1 hw.2.2.1 hsay]
theorem print_plain {p : PF} (h : printable p = true) : plainP (cutAt 10 [] (textP p)) PF0 = some p := by
  obtain ⟨ign, bak, mrg, pre, frc, bat, fst⟩ := p
  unfold printable okRules okProgs at h
  simp only [Bool.and_eq_true, decide_eq_true_eq, List.all_eq_true] at h
  obtain ⟨⟨⟨⟨hpre, hfrc⟩, hi⟩, hb⟩, hm⟩ := h
  have e : textP ⟨ign, bak, mrg, pre, frc, bat, fst⟩ = (if bat then wBatch ++ [10] else []) ++ ((if fst then wFast ++ [10] else []) ++ (sidedL wPrefer pre ++ (sidedL wForce frc ++ (rulesL wIgnore wKeep ign ++ (rulesL wBackup wDrop bak ++ progsL mrg))))) := by
    unfold textP headL; simp only [List.append_assoc]
  have s1 : ∀ rest, plainP (cutAt 10 [] ((if bat then wBatch ++ [10] else []) ++ rest)) PF0 = plainP (cutAt 10 [] rest) { PF0 with bat := bat } := by
    intro rest
    cases bat
    · rfl
    · exact lines_flag wBatch _ _ rest (by unfold saysP; rw [if_neg (by decide), if_neg (by decide), if_neg (by decide), if_neg (by decide), if_neg (by decide), if_pos rfl, if_pos rfl]) (by decide)
  have s2 : ∀ rest, plainP (cutAt 10 [] ((if fst then wFast ++ [10] else []) ++ rest)) { PF0 with bat := bat } = plainP (cutAt 10 [] rest) { PF0 with bat := bat, fst := fst } := by
    intro rest
    cases fst
    · rfl
    · exact lines_flag wFast _ _ rest (by unfold saysP; rw [if_neg (by decide), if_neg (by decide), if_neg (by decide), if_neg (by decide), if_neg (by decide), if_neg (by decide), if_pos rfl, if_pos rfl]) (by decide)
  rw [e, s1, s2]
  rw [lines_sided wPrefer (fun p n => { p with pre := n }) (fun p a ha => by unfold saysP; rw [if_neg (by decide), if_neg (by decide), if_neg (by decide), if_pos rfl, if_pos ha]) (by decide) pre hpre _ _ rfl]
  rw [lines_sided wForce (fun p n => { p with frc := n }) (fun p a ha => by unfold saysP; rw [if_neg (by decide), if_neg (by decide), if_neg (by decide), if_neg (by decide), if_pos rfl, if_pos ha]) (by decide) frc hfrc _ _ rfl]
  rw [lines_rules wIgnore wKeep (fun p l => { p with ign := l }) (fun p => p.ign) (fun p r h1 h2 => by
    cases hr : r.ign
    · unfold saysP; rw [if_pos (.inr rfl), if_pos ⟨h1, h2⟩]; simp only [Option.some.injEq]; congr; obtain ⟨a, b⟩ := r; simp only at hr; subst hr; rfl
    · unfold saysP; rw [if_pos (.inl rfl), if_pos ⟨h1, h2⟩]; simp only [Option.some.injEq]; congr; obtain ⟨a, b⟩ := r; simp only at hr; subst hr; rfl) (by decide) (by decide) (fun _ _ => rfl) (fun _ _ _ => rfl) ign _ _ hi.2 (by simpa [PF0] using hi.1) rfl]
  rw [lines_rules wBackup wDrop (fun p l => { p with bak := l }) (fun p => p.bak) (fun p r h1 h2 => by
    cases hr : r.ign
    · unfold saysP; rw [if_neg (by decide), if_pos (.inr rfl), if_pos ⟨h1, h2⟩]; simp only [Option.some.injEq]; congr; obtain ⟨a, b⟩ := r; simp only at hr; subst hr; rfl
    · unfold saysP; rw [if_neg (by decide), if_pos (.inl rfl), if_pos ⟨h1, h2⟩]; simp only [Option.some.injEq]; congr; obtain ⟨a, b⟩ := r; simp only at hr; subst hr; rfl) (by decide) (by decide) (fun _ _ => rfl) (fun _ _ _ => rfl) bak _ _ hb.2 (by simpa [PF0] using hb.1) rfl]
  rw [lines_progs mrg _ (fun m h => by have := hm.2 m h; exact this) (by simpa [PF0] using hm.1)]
  simp [PF0]
/-- what is printed is read back -/
theorem print_back {p : PF} (h : printable p = true) (hlen : (textP p).length ≤ 65536) : parseP [⟨nx, textP p⟩] nx = (p, ⟨[], []⟩, 0) := by
  have f2 : findT [⟨nx, textP p⟩] nx = some 0 := by unfold findT; rw [List.findIdx?_cons]; simp
  unfold parseP
  rw [f2]
  simp only
  rw [readP, f2]
  simp only [List.getD_cons_zero, List.nil_append]
  rw [if_neg (by omega), lines_of_plain _ _ _ _ _ _ _ _ (print_plain h)]
end Plain
end Go.Proofs.YtoifnnhbejofjaaDoor
end

/- Whole rows: a store into a row of the call's own, a load of one. -/
section
namespace Go.Proofs.YtoifnnhbejofjaaDoor
open Go.RowKit

theorem heap_setCells {e : TypeId} {g : Nat} : ∀ (vs : List Value) (o : Nat) (C : Array Value) (w : World), w.heap[g]? = some (.cells C e (0, 0)) → o + vs.length ≤ C.size →
    (w.setCells g o vs).heap[g]? = some (.cells (C.toList.take o ++ vs ++ C.toList.drop (o + vs.length)).toArray e (0, 0)) ∧ w.grownBy (w.setCells g o vs) (some g) ∧ (w.setCells g o vs).heap.size = w.heap.size
  | [], o, C, w, h, _ => ⟨by simpa [World.setCells] using h, gb_refl _ _, rfl⟩
  | v :: vs, o, C, w, h, hl => by
    simp only [List.length_cons] at hl
    have h1 := heap_set h o v
    obtain ⟨h2, h3, h4⟩ := heap_setCells vs (o + 1) (C.setIfInBounds o v) (w.setCell ⟨g, o, none⟩ v) h1 (by simp; omega)
    refine ⟨?_, ?_, ?_⟩
    · show (World.setCells (w.setCell ⟨g, o, none⟩ v) g (o + 1) vs).heap[g]? = _
      rw [h2]
      congr 2
      have e1 : (C.setIfInBounds o v).toList.take (o + 1) = C.toList.take o ++ [v] := by
        rw [Array.toList_setIfInBounds, List.take_set, List.take_succ_eq_append_getElem (by simp; omega)]
        rw [List.set_append_right _ _ (by simp; omega)]
        have hm : min o C.size = o := by omega
        simp [hm]
      have e2 : (C.setIfInBounds o v).toList.drop (o + 1 + vs.length) = C.toList.drop (o + (v :: vs).length) := by
        rw [Array.toList_setIfInBounds, List.drop_set_of_lt (by omega), List.length_cons]; congr 1; omega
      rw [e1, e2]; simp
    · show w.grownBy (World.setCells (w.setCell ⟨g, o, none⟩ v) g (o + 1) vs) (some g)
      have hs := gb_set (gb_refl w (some g)) (p := ⟨g, o, none⟩) (.inl rfl) v
      exact ⟨h3.os.trans hs.os, h3.tape.trans hs.tape, h3.output.trans hs.output, Nat.le_trans hs.size h3.size, fun i hi hne => (h3.block i (Nat.lt_of_lt_of_le hi hs.size) hne).trans (hs.block i hi hne)⟩
    · show (World.setCells (w.setCell ⟨g, o, none⟩ v) g (o + 1) vs).heap.size = _
      rw [h4]; simp [World.setCell]

/-- A whole row is stored. -/
theorem wpList_store_row {P : Program} {ops : Array Oper} {rest : List Oper} {op : Oper} {a : Act} {w : World} {Q : Exit → Act → World → Prop} (hgd : op.guard = none) (ty : TypeId) (x y : Operand) (ho : op.op = .store ty x y)
    (g : Nat) (cells C : Array Value) (e : TypeId) (hx : a.eval x = .pointer (some ⟨g, 0, none⟩)) (hy : a.eval y = .agg cells)
    (hg : w.heap[g]? = some (.cells C e (0, 0))) (hC : C.size = cells.size) (hi : (P.info? ty).map (·.size) = some cells.size) (h1 : cells.all (·.oneCell') = true)
    (h : ∀ w', w.grownBy w' (some g) → w'.heap.size = w.heap.size → w'.heap[g]? = some (.cells cells e (0, 0)) → wpList P ops Q rest (a.put op.dst undef) w') : wpList P ops Q (op :: rest) a w := by
  obtain ⟨h2, h3, h4⟩ := heap_setCells cells.toList 0 C w hg (by simp [hC])
  refine wpList_store_mid hgd ty x y ho g 0 cells hx hy (fun j hj => ?_) hi h1 (h _ h3 h4 ?_)
  · refine ⟨?_, frozen_of_row w g _ C e hg⟩
    rw [cell_of_row w g _ C e _ hg]
    simp [hC, hj]
  · rw [h2, List.take_zero, List.drop_eq_nil_of_le (by simp [hC])]; simp

theorem heap_new' (W : World) (o : Obj) (n : Nat) (h : W.heap.size = n) : (W.alloc o).heap[n]? = some o := by subst h; exact heap_alloc_new W o
theorem heap_old' {W : World} {o x : Obj} {n : Nat} (h : W.heap[n]? = some x) : (W.alloc o).heap[n]? = some x := by
  rw [Below.heap_alloc _ _ _ (Array.getElem?_eq_some_iff.1 h).1]; exact h

end Go.Proofs.YtoifnnhbejofjaaDoor
end
