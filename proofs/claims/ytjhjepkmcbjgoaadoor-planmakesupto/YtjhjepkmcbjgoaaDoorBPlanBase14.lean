/- Texts joined: PlainPlan, WholeRows, RowsE, PlanOpen, Valid. -/
import Derived.Test.YtjhjepkmcbjgoaaDoorBPlanBase13
import Derived.Test.YtjhjepkmcbjgoaaDoorBPlanBase11
import Derived.Deep.MidRow
import Derived.Test.YtjhjepkmcbjgoaaDoorShelf
import Derived.Shelf.Unicode.ValidAny
import Derived.Lib.LaidU8T
set_option linter.unusedSimpArgs false
set_option linter.unusedVariables false

/- plan: what is done at all items, as plain functions of lists. -/
section
set_option linter.unusedVariables false
namespace Go.Proofs.YtjhjepkmcbjgoaaDoor
namespace Plain

structure Itm where
  path : List UInt8
  what : Int
structure Chc where
  path : List UInt8
  act : Int
structure Prg where
  name : List UInt8
  pat : List UInt8
structure Prf where
  merge : List Prg
  prefer : Int
  force : Int
  batch : Bool

/-- the last program whose pattern matches -/
def progF (a : List UInt8) (l : List Prg) (s : List UInt8) : List UInt8 := l.foldl (fun a m => if matchG m.pat s then m.name else a) a
def progP (l : List Prg) (s : List UInt8) : List UInt8 := progF [] l s
theorem progF_at {l : List Prg} {i : Nat} (h : i < l.length) (a s : List UInt8) : progF a (l.drop i) s = progF (if matchG l[i].pat s then l[i].name else a) (l.drop (i + 1)) s := by
  rw [List.drop_eq_getElem_cons h]; rfl
theorem progF_end (l : List Prg) (a s : List UInt8) : progF a (l.drop l.length) s = a := by rw [List.drop_length]; rfl

def lookI (l : List Itm) (s : List UInt8) : Option Int := (l.find? (fun x => x.path == s)).map (·.what)
def lookC (l : List Chc) (s : List UInt8) : Option Int := (l.find? (fun x => x.path == s)).map (·.act)

/-- the direction that an item tells -/
def goes (what : Int) : Int := if what = 3 then 2 else 1
def actP (what : Int) (prog : List UInt8) (p : Prf) (ch : Option Int) : Int :=
  match ch with
  | some d => if d = 4 then goes what else d
  | none => if p.force = 1 ∨ p.force = 2 then p.force
    else if what = 4 then (if prog ≠ [] then 3 else if p.prefer = 1 ∨ p.prefer = 2 then p.prefer else 0)
    else if p.batch = true then goes what else 0

def firstB (p : Nat → Bool) (i n : Nat) : Option Nat := (List.range' i (n - i)).find? p
theorem firstB_at {p : Nat → Bool} {i n : Nat} (h : i < n) : firstB p i n = if p i = true then some i else firstB p (i + 1) n := by
  obtain ⟨k, hk⟩ : ∃ k, n - i = k + 1 := ⟨n - i - 1, by omega⟩
  unfold firstB
  rw [hk, List.range'_succ, List.find?_cons, show n - (i + 1) = k by omega]
  cases p i <;> rfl
theorem firstB_end {p : Nat → Bool} {n : Nat} : firstB p n n = none := by unfold firstB; simp
theorem firstB_none {p : Nat → Bool} : ∀ (k i n : Nat), n ≤ i + k → (firstB p i n = none ↔ ∀ j, i ≤ j → j < n → p j = false) := by
  intro k
  induction k with
  | zero =>
    intro i n h
    refine ⟨(fun _ j h1 h2 => by omega), fun _ => ?_⟩
    unfold firstB
    rw [show n - i = 0 by omega]; rfl
  | succ k ih =>
    intro i n h
    by_cases hi : i < n
    · rw [firstB_at hi]
      by_cases hp : p i = true
      · rw [if_pos hp]
        refine ⟨(fun h => by cases h), fun h => ?_⟩
        rw [h i (Nat.le_refl _) hi] at hp; cases hp
      · rw [if_neg hp, ih (i + 1) n (by omega)]
        refine ⟨fun h j h1 h2 => ?_, fun h j h1 h2 => h j (by omega) h2⟩
        by_cases e : j = i
        · subst e; simpa using hp
        · exact h j (by omega) h2
    · refine ⟨(fun _ j h1 h2 => by omega), fun _ => ?_⟩
      unfold firstB
      rw [show n - i = 0 by omega]; rfl
theorem firstB_some {p : Nat → Bool} : ∀ (k i n r : Nat), n ≤ i + k → (firstB p i n = some r ↔ i ≤ r ∧ r < n ∧ p r = true ∧ ∀ j, i ≤ j → j < r → p j = false) := by
  intro k
  induction k with
  | zero =>
    intro i n r h
    unfold firstB
    rw [show n - i = 0 by omega]
    exact ⟨(fun h => by cases h), (fun ⟨h1, h2, _⟩ => by omega)⟩
  | succ k ih =>
    intro i n r h
    by_cases hi : i < n
    · rw [firstB_at hi]
      by_cases hp : p i = true
      · rw [if_pos hp]
        constructor
        · intro h
          injection h with h
          subst h
          exact ⟨Nat.le_refl _, hi, hp, (fun j h1 h2 => by omega)⟩
        · rintro ⟨h1, h2, h3, h4⟩
          by_cases e : r = i
          · rw [e]
          · rw [h4 i (Nat.le_refl _) (by omega)] at hp; cases hp
      · rw [if_neg hp, ih (i + 1) n r (by omega)]
        constructor
        · rintro ⟨h1, h2, h3, h4⟩
          refine ⟨by omega, h2, h3, fun j h5 h6 => ?_⟩
          by_cases e : j = i
          · subst e; simpa using hp
          · exact h4 j (by omega) h6
        · rintro ⟨h1, h2, h3, h4⟩
          have hne : r ≠ i := by rintro rfl; exact hp h3
          exact ⟨by omega, h2, h3, fun j h5 h6 => h4 j (by omega) h6⟩
    · unfold firstB
      rw [show n - i = 0 by omega]
      exact ⟨(fun h => by cases h), (fun ⟨h1, h2, _⟩ => by omega)⟩

def itemBad (l : List Itm) (i : Nat) : Bool :=
  match l[i]? with
  | none => false
  | some x => (lookI (l.take i) x.path).isSome || decide (x.what < 1) || decide (4 < x.what)
def choiceBad (items : List Itm) (l : List Chc) (i : Nat) : Bool :=
  match l[i]? with
  | none => false
  | some c => (lookC (l.take i) c.path).isSome || (match lookI items c.path with
    | none => true
    | some w => w == 1 || decide (c.act < 0) || decide (4 < c.act) || (c.act == 4 && w == 4))
def outP (items : List Itm) (p : Prf) (choices : List Chc) : List Chc :=
  (items.filter fun x => decide (x.what ≠ 1)).map fun x => ⟨x.path, actP x.what (progP p.merge x.path) p (lookC choices x.path)⟩
def makeP (items : List Itm) (p : Prf) (choices : List Chc) : List Chc × Nat × Nat :=
  match firstB (itemBad items) 0 items.length with
  | some i => ([], i, 91)
  | none => match firstB (choiceBad items choices) 0 choices.length with
    | some i => ([], i, 130)
    | none => (outP items p choices, 0, 0)

theorem outP_nil (p : Prf) (ch : List Chc) : outP [] p ch = [] := rfl
theorem outP_cons (x : Itm) (l : List Itm) (p : Prf) (ch : List Chc) : outP (x :: l) p ch = if x.what = 1 then outP l p ch else ⟨x.path, actP x.what (progP p.merge x.path) p (lookC ch x.path)⟩ :: outP l p ch := by
  unfold outP
  by_cases h : x.what = 1
  · rw [if_pos h, List.filter_cons_of_neg (by simpa using h)]
  · rw [if_neg h, List.filter_cons_of_pos (by simpa using h)]; rfl
theorem outP_append (l k : List Itm) (p : Prf) (ch : List Chc) : outP (l ++ k) p ch = outP l p ch ++ outP k p ch := by
  unfold outP; rw [List.filter_append, List.map_append]
theorem outP_at {l : List Itm} {i : Nat} (h : i < l.length) (p : Prf) (ch : List Chc) : outP (l.drop i) p ch = if l[i].what = 1 then outP (l.drop (i + 1)) p ch else ⟨l[i].path, actP l[i].what (progP p.merge l[i].path) p (lookC ch l[i].path)⟩ :: outP (l.drop (i + 1)) p ch := by
  rw [List.drop_eq_getElem_cons h, outP_cons]
theorem outP_take {l : List Itm} {i : Nat} (h : i < l.length) (p : Prf) (ch : List Chc) : outP (l.take (i + 1)) p ch = if l[i].what = 1 then outP (l.take i) p ch else outP (l.take i) p ch ++ [⟨l[i].path, actP l[i].what (progP p.merge l[i].path) p (lookC ch l[i].path)⟩] := by
  rw [List.take_succ_eq_append_getElem h, outP_append, outP_cons, outP_nil]
  split
  · simp
  · rfl
theorem outP_length (l : List Itm) (p : Prf) (ch : List Chc) : (outP l p ch).length ≤ l.length := by
  unfold outP; rw [List.length_map]; exact List.length_filter_le _ _

theorem lookI_cons (x : Itm) (l : List Itm) (s : List UInt8) : lookI (x :: l) s = if x.path = s then some x.what else lookI l s := by
  unfold lookI
  rw [List.find?_cons]
  by_cases h : x.path = s
  · rw [if_pos h, beq_iff_eq.2 h]; rfl
  · rw [if_neg h, beq_eq_false_iff_ne.2 h]
theorem lookC_cons (x : Chc) (l : List Chc) (s : List UInt8) : lookC (x :: l) s = if x.path = s then some x.act else lookC l s := by
  unfold lookC
  rw [List.find?_cons]
  by_cases h : x.path = s
  · rw [if_pos h, beq_iff_eq.2 h]; rfl
  · rw [if_neg h, beq_eq_false_iff_ne.2 h]
theorem lookI_snoc (l : List Itm) (x : Itm) (s : List UInt8) : lookI (l ++ [x]) s = (lookI l s).or (if x.path = s then some x.what else none) := by
  unfold lookI
  rw [List.find?_append]
  cases h : l.find? (fun x => x.path == s) with
  | some y => rfl
  | none =>
    by_cases h : x.path = s
    · rw [if_pos h]; simp [h]
    · rw [if_neg h]; simp [h]
theorem lookC_snoc (l : List Chc) (x : Chc) (s : List UInt8) : lookC (l ++ [x]) s = (lookC l s).or (if x.path = s then some x.act else none) := by
  unfold lookC
  rw [List.find?_append]
  cases h : l.find? (fun x => x.path == s) with
  | some y => rfl
  | none =>
    by_cases h : x.path = s
    · rw [if_pos h]; simp [h]
    · rw [if_neg h]; simp [h]
/-- what the map holds behind one more -/
theorem lookI_take {l : List Itm} {i : Nat} (h : i < l.length) (hn : lookI (l.take i) l[i].path = none) (s : List UInt8) : lookI (l.take (i + 1)) s = if s = l[i].path then some l[i].what else lookI (l.take i) s := by
  rw [List.take_succ_eq_append_getElem h, lookI_snoc]
  by_cases e : s = l[i].path
  · rw [if_pos e, e, hn, if_pos rfl]; rfl
  · rw [if_neg e, if_neg (fun q => e q.symm)]; simp
theorem lookC_take {l : List Chc} {i : Nat} (h : i < l.length) (hn : lookC (l.take i) l[i].path = none) (s : List UInt8) : lookC (l.take (i + 1)) s = if s = l[i].path then some l[i].act else lookC (l.take i) s := by
  rw [List.take_succ_eq_append_getElem h, lookC_snoc]
  by_cases e : s = l[i].path
  · rw [if_pos e, e, hn, if_pos rfl]; rfl
  · rw [if_neg e, if_neg (fun q => e q.symm)]; simp

theorem itemBad_at {l : List Itm} {i : Nat} (h : i < l.length) : itemBad l i = ((lookI (l.take i) l[i].path).isSome || decide (l[i].what < 1) || decide (4 < l[i].what)) := by
  unfold itemBad; rw [List.getElem?_eq_getElem h]
theorem choiceBad_at {items : List Itm} {l : List Chc} {i : Nat} (h : i < l.length) : choiceBad items l i = ((lookC (l.take i) l[i].path).isSome || (match lookI items l[i].path with
    | none => true
    | some w => w == 1 || decide (l[i].act < 0) || decide (4 < l[i].act) || (l[i].act == 4 && w == 4))) := by
  unfold choiceBad; rw [List.getElem?_eq_getElem h]
theorem lookC_mem {l : List Chc} {s : List UInt8} {d : Int} (h : lookC l s = some d) : ∃ (i : Nat) (h : i < l.length), l[i].path = s ∧ l[i].act = d := by
  unfold lookC at h
  cases hf : l.find? (fun x => x.path == s) with
  | none => rw [hf] at h; cases h
  | some y =>
    rw [hf] at h
    injection h with h
    have h1 := List.mem_of_find?_eq_some hf
    have h2 := List.find?_some hf
    obtain ⟨i, hi, rfl⟩ := List.getElem_of_mem h1
    exact ⟨i, hi, by simpa using h2, h⟩
theorem lookI_mem {l : List Itm} {s : List UInt8} {d : Int} (h : lookI l s = some d) : ∃ (i : Nat) (h : i < l.length), l[i].path = s ∧ l[i].what = d := by
  unfold lookI at h
  cases hf : l.find? (fun x => x.path == s) with
  | none => rw [hf] at h; cases h
  | some y =>
    rw [hf] at h
    injection h with h
    have h1 := List.mem_of_find?_eq_some hf
    have h2 := List.find?_some hf
    obtain ⟨i, hi, rfl⟩ := List.getElem_of_mem h1
    exact ⟨i, hi, by simpa using h2, h⟩
theorem lookI_none {l : List Itm} {s : List UInt8} : lookI l s = none ↔ ∀ x ∈ l, x.path ≠ s := by
  unfold lookI; simp
theorem lookC_none {l : List Chc} {s : List UInt8} : lookC l s = none ↔ ∀ x ∈ l, x.path ≠ s := by
  unfold lookC; simp
/-- items without a fault: each is found by its own path -/
theorem lookI_own {l : List Itm} (hok : firstB (itemBad l) 0 l.length = none) {i : Nat} (h : i < l.length) : lookI l l[i].path = some l[i].what := by
  rw [firstB_none l.length 0 l.length (by omega)] at hok
  have hb := hok i (by omega) h
  rw [itemBad_at h] at hb
  simp only [Bool.or_eq_false_iff, Option.isSome_eq_false_iff, Option.isNone_iff_eq_none] at hb
  have hn := hb.1.1
  have e : l.find? (fun x => x.path == l[i].path) = (l.take i ++ l[i] :: l.drop (i + 1)).find? (fun x => x.path == l[i].path) := by
    rw [← List.drop_eq_getElem_cons h, List.take_append_drop]
  unfold lookI at hn ⊢
  rw [e, List.find?_append]
  cases hf : (l.take i).find? (fun x => x.path == l[i].path) with
  | some y => rw [hf] at hn; cases hn
  | none => rw [List.find?_cons, beq_self_eq_true]; rfl
theorem item_what {l : List Itm} (hok : firstB (itemBad l) 0 l.length = none) {i : Nat} (h : i < l.length) : 1 ≤ l[i].what ∧ l[i].what ≤ 4 := by
  rw [firstB_none l.length 0 l.length (by omega)] at hok
  have hb := hok i (by omega) h
  rw [itemBad_at h] at hb
  simp only [Bool.or_eq_false_iff, decide_eq_false_iff_not] at hb
  omega
/-- choices without a fault: what is chosen for an item that is no matter of course can be done -/
theorem choice_ok {items : List Itm} {l : List Chc} (hi : firstB (itemBad items) 0 items.length = none) (hok : firstB (choiceBad items l) 0 l.length = none) {i : Nat} (h : i < items.length) {d : Int} (hd : lookC l items[i].path = some d) :
    items[i].what ≠ 1 ∧ 0 ≤ d ∧ d ≤ 4 ∧ (d = 4 → items[i].what ≠ 4) := by
  obtain ⟨k, hk, h1, h2⟩ := lookC_mem hd
  rw [firstB_none l.length 0 l.length (by omega)] at hok
  have hb := hok k (by omega) hk
  rw [choiceBad_at hk, h1, lookI_own hi h, h2] at hb
  simp only [Bool.or_eq_false_iff, Bool.and_eq_false_iff, beq_eq_false_iff_ne, decide_eq_false_iff_not] at hb
  refine ⟨hb.2.1.1.1, by omega, by omega, fun e => ?_⟩
  rcases hb.2.2 with q | q
  · exact absurd e q
  · exact q

/-! the laws -/
theorem actP_nothing (what : Int) (prog : List UInt8) (p : Prf) (h1 : p.force = 0) (h2 : p.prefer = 0) (h3 : p.batch = false) (h4 : prog = []) : actP what prog p none = 0 := by
  unfold actP
  simp [h1, h2, h3, h4]
theorem firstB_congr {p q : Nat → Bool} : ∀ (k i n : Nat), n ≤ i + k → (∀ j, i ≤ j → j < n → p j = q j) → firstB p i n = firstB q i n := by
  intro k
  induction k with
  | zero => intro i n h _; unfold firstB; rw [show n - i = 0 by omega]; rfl
  | succ k ih =>
    intro i n h hpq
    by_cases hi : i < n
    · rw [firstB_at hi, firstB_at hi, hpq i (Nat.le_refl _) hi, ih (i + 1) n (by omega) (fun j h1 h2 => hpq j (by omega) h2)]
    · unfold firstB; rw [show n - i = 0 by omega]; rfl
theorem firstB_more {p : Nat → Bool} : ∀ (k i n : Nat), n ≤ i + k → i ≤ n → firstB p i (n + 1) = match firstB p i n with
    | some r => some r
    | none => if p n = true then some n else none := by
  intro k
  induction k with
  | zero =>
    intro i n h hi
    obtain rfl : i = n := by omega
    rw [firstB_at (by omega), firstB_end, firstB_end]
  | succ k ih =>
    intro i n h hi
    by_cases e : i = n
    · subst e
      rw [firstB_at (by omega), firstB_end, firstB_end]
    · rw [firstB_at (by omega), firstB_at (show i < n by omega), ih (i + 1) n (by omega) (by omega)]
      by_cases hp : p i = true
      · rw [if_pos hp, if_pos hp]
      · rw [if_neg hp, if_neg hp]
theorem itemBad_more {l : List Itm} {x : Itm} {i : Nat} (h : i < l.length) : itemBad (l ++ [x]) i = itemBad l i := by
  rw [itemBad_at h, itemBad_at (by simp; omega), List.take_append_of_le_length (by omega), List.getElem_append_left h]
theorem choiceBad_more {items : List Itm} {l : List Chc} {x : Chc} {i : Nat} (h : i < l.length) : choiceBad items (l ++ [x]) i = choiceBad items l i := by
  rw [choiceBad_at h, choiceBad_at (by simp; omega), List.take_append_of_le_length (by omega), List.getElem_append_left h]
/-- an item more: what is done at the others is as it was -/
theorem make_more (items : List Itm) (p : Prf) (x : Itm) :
    makeP (items ++ [x]) p [] = match makeP items p [] with
      | (l, at_, e) => if e ≠ 0 then (l, at_, e) else if itemBad (items ++ [x]) items.length = true then ([], items.length, 91) else (l ++ outP [x] p [], 0, 0) := by
  unfold makeP
  have h1 : firstB (itemBad (items ++ [x])) 0 (items ++ [x]).length = match firstB (itemBad items) 0 items.length with
      | some r => some r
      | none => if itemBad (items ++ [x]) items.length = true then some items.length else none := by
    rw [List.length_append, List.length_cons, List.length_nil, firstB_more items.length 0 items.length (by omega) (by omega), firstB_congr (q := itemBad items) items.length 0 items.length (by omega) (fun j _ h2 => itemBad_more h2)]
  rw [h1]
  cases firstB (itemBad items) 0 items.length with
  | some r => rfl
  | none =>
    simp only [List.length_nil, firstB_end]
    by_cases hb : itemBad (items ++ [x]) items.length = true
    · rw [if_pos hb, if_pos hb]; rfl
    · rw [if_neg hb, if_neg hb]
      simp only [ne_eq, not_true_eq_false, if_false]
      rw [outP_append]
theorem make_len {items : List Itm} {p : Prf} {ch : List Chc} (h : (makeP items p ch).2.2 ≠ 0) : (makeP items p ch).1 = [] := by
  unfold makeP
  cases h1 : firstB (itemBad items) 0 items.length with
  | some r => rfl
  | none =>
    cases h2 : firstB (choiceBad items ch) 0 ch.length with
    | some r => rfl
    | none => unfold makeP at h; rw [h1] at h; simp only [h2] at h; exact absurd rfl h
theorem make_err (items : List Itm) (p : Prf) (ch : List Chc) : (makeP items p ch).2.2 = 0 ∨ (makeP items p ch).2.2 = 91 ∨ (makeP items p ch).2.2 = 130 := by
  unfold makeP
  cases firstB (itemBad items) 0 items.length with
  | some r => exact .inr (.inl rfl)
  | none =>
    cases h2 : firstB (choiceBad items ch) 0 ch.length with
    | some r => exact .inr (.inr rfl)
    | none => exact .inl rfl
theorem make_ok {items : List Itm} {p : Prf} {ch : List Chc} (h : (makeP items p ch).2.2 = 0) : firstB (itemBad items) 0 items.length = none ∧ firstB (choiceBad items ch) 0 ch.length = none ∧ makeP items p ch = (outP items p ch, 0, 0) := by
  unfold makeP at h ⊢
  cases h1 : firstB (itemBad items) 0 items.length with
  | some r => simp [h1] at h
  | none =>
    cases h2 : firstB (choiceBad items ch) 0 ch.length with
    | some r => simp [h1, h2] at h
    | none => exact ⟨rfl, rfl, rfl⟩
theorem make_nil_err (items : List Itm) (p : Prf) : (makeP items p []).2.2 = 0 ∨ (makeP items p []).2.2 = 91 := by
  unfold makeP
  cases firstB (itemBad items) 0 items.length with
  | some r => exact .inr rfl
  | none => exact .inl rfl
/-- a choice more -/
theorem make_choice {items : List Itm} {p : Prf} {ch : List Chc} {x : Chc} (h : (makeP items p (ch ++ [x])).2.2 = 0) :
    (makeP items p ch).2.2 = 0 ∧ (makeP items p (ch ++ [x])).1.length = (makeP items p ch).1.length ∧
      ∀ (i : Nat) (h1 : i < (makeP items p (ch ++ [x])).1.length) (h2 : i < (makeP items p ch).1.length),
        if (makeP items p (ch ++ [x])).1[i].path = x.path then (if x.act = 4 then (makeP items p (ch ++ [x])).1[i].act = 1 ∨ (makeP items p (ch ++ [x])).1[i].act = 2 else (makeP items p (ch ++ [x])).1[i].act = x.act)
        else (makeP items p (ch ++ [x])).1[i] = (makeP items p ch).1[i] := by
  obtain ⟨hi, hc, he⟩ := make_ok h
  rw [List.length_append, List.length_cons, List.length_nil, firstB_more ch.length 0 ch.length (by omega) (by omega), firstB_congr (q := choiceBad items ch) ch.length 0 ch.length (by omega) (fun j _ h2 => choiceBad_more h2)] at hc
  have hc2 : firstB (choiceBad items ch) 0 ch.length = none := by
    cases hq : firstB (choiceBad items ch) 0 ch.length with
    | some r => rw [hq] at hc; cases hc
    | none => rfl
  rw [hc2] at hc
  have hlast : choiceBad items (ch ++ [x]) ch.length = false := by
    cases hq : choiceBad items (ch ++ [x]) ch.length with
    | true => rw [hq] at hc; cases hc
    | false => rfl
  have hn : lookC ch x.path = none := by
    rw [choiceBad_at (by simp)] at hlast
    simp only [Bool.or_eq_false_iff] at hlast
    have := hlast.1
    simpa using this
  have he2 : makeP items p ch = (outP items p ch, 0, 0) := by unfold makeP; rw [hi]; simp only [hc2]
  rw [he, he2]
  have hs : ∀ s, lookC (ch ++ [x]) s = if x.path = s then some x.act else lookC ch s := fun s => by
    rw [lookC_snoc]
    by_cases e : x.path = s
    · rw [if_pos e, if_pos e, ← e, hn]; rfl
    · rw [if_neg e, if_neg e]; simp
  refine ⟨rfl, ?_, fun i h1 h2 => ?_⟩
  · show (outP items p (ch ++ [x])).length = (outP items p ch).length
    unfold outP; rw [List.length_map, List.length_map]
  · skip
    have g1 : ∀ c, (outP items p c)[i]? = ((items.filter fun x => decide (x.what ≠ 1))[i]?).map fun x => ⟨x.path, actP x.what (progP p.merge x.path) p (lookC c x.path)⟩ := fun c => by unfold outP; rw [List.getElem?_map]
    have g2 := g1 (ch ++ [x])
    have g3 := g1 ch
    rw [List.getElem?_eq_getElem h2] at g3
    rw [List.getElem?_eq_getElem h1] at g2
    cases hy : (items.filter fun x => decide (x.what ≠ 1))[i]? with
    | none => rw [hy] at g2; cases g2
    | some y =>
    rw [hy] at g2 g3
    injection g2 with g2
    injection g3 with g3
    show if (outP items p (ch ++ [x]))[i].path = x.path then _ else (outP items p (ch ++ [x]))[i] = (outP items p ch)[i]
    rw [g2, g3]
    simp only [hs]
    by_cases e : y.path = x.path
    · rw [if_pos e, if_pos e.symm]
      by_cases h4 : x.act = 4
      · rw [if_pos h4]
        unfold actP goes
        simp only [h4, if_true]
        split
        · exact .inr rfl
        · exact .inl rfl
      · rw [if_neg h4]
        unfold actP
        simp only [h4, if_false]
    · rw [if_neg e, if_neg (fun q => e q.symm)]
end Plain
end Go.Proofs.YtjhjepkmcbjgoaaDoor
end

/- Whole rows: a store into a row of the call's own, a load of one. -/
section
namespace Go.Proofs.YtjhjepkmcbjgoaaDoor
open Go.RowKit

theorem heap_setCells {e : TypeId} {g : Nat} : ∀ (vs : List Value) (o : Nat) (C : Array Value) (w : World), w.heap[g]? = some (.cells C e (0, 0)) → o + vs.length ≤ C.size →
    (w.setCells g o vs).heap[g]? = some (.cells (C.toList.take o ++ vs ++ C.toList.drop (o + vs.length)).toArray e (0, 0)) ∧ w.grownBy (w.setCells g o vs) (some g) ∧ (w.setCells g o vs).heap.size = w.heap.size
  | [], o, C, w, h, _ => ⟨by simpa [World.setCells] using h, gb_refl _ _, rfl⟩
  | v :: vs, o, C, w, h, hl => by
    simp only [List.length_cons] at hl
    have h1 := heap_set h o v
    obtain ⟨h2, h3, h4⟩ := heap_setCells vs (o + 1) (C.setIfInBounds o v) (w.setCell ⟨g, o, none⟩ v) h1 (by simp; omega)
    refine ⟨?_, ?_, ?_⟩
    · show (World.setCells (w.setCell ⟨g, o, none⟩ v) g (o + 1) vs).heap[g]? = _
      rw [h2]
      congr 2
      have e1 : (C.setIfInBounds o v).toList.take (o + 1) = C.toList.take o ++ [v] := by
        rw [Array.toList_setIfInBounds, List.take_set, List.take_succ_eq_append_getElem (by simp; omega)]
        rw [List.set_append_right _ _ (by simp; omega)]
        have hm : min o C.size = o := by omega
        simp [hm]
      have e2 : (C.setIfInBounds o v).toList.drop (o + 1 + vs.length) = C.toList.drop (o + (v :: vs).length) := by
        rw [Array.toList_setIfInBounds, List.drop_set_of_lt (by omega), List.length_cons]; congr 1; omega
      rw [e1, e2]; simp
    · show w.grownBy (World.setCells (w.setCell ⟨g, o, none⟩ v) g (o + 1) vs) (some g)
      have hs := gb_set (gb_refl w (some g)) (p := ⟨g, o, none⟩) (.inl rfl) v
      exact ⟨h3.os.trans hs.os, h3.tape.trans hs.tape, h3.output.trans hs.output, Nat.le_trans hs.size h3.size, fun i hi hne => (h3.block i (Nat.lt_of_lt_of_le hi hs.size) hne).trans (hs.block i hi hne)⟩
    · show (World.setCells (w.setCell ⟨g, o, none⟩ v) g (o + 1) vs).heap.size = _
      rw [h4]; simp [World.setCell]

/-- A whole row is stored. -/
theorem wpList_store_row {P : Program} {ops : Array Oper} {rest : List Oper} {op : Oper} {a : Act} {w : World} {Q : Exit → Act → World → Prop} (hgd : op.guard = none) (ty : TypeId) (x y : Operand) (ho : op.op = .store ty x y)
    (g : Nat) (cells C : Array Value) (e : TypeId) (hx : a.eval x = .pointer (some ⟨g, 0, none⟩)) (hy : a.eval y = .agg cells)
    (hg : w.heap[g]? = some (.cells C e (0, 0))) (hC : C.size = cells.size) (hi : (P.info? ty).map (·.size) = some cells.size) (h1 : cells.all (·.oneCell') = true)
    (h : ∀ w', w.grownBy w' (some g) → w'.heap.size = w.heap.size → w'.heap[g]? = some (.cells cells e (0, 0)) → wpList P ops Q rest (a.put op.dst undef) w') : wpList P ops Q (op :: rest) a w := by
  obtain ⟨h2, h3, h4⟩ := heap_setCells cells.toList 0 C w hg (by simp [hC])
  refine wpList_store_mid hgd ty x y ho g 0 cells hx hy (fun j hj => ?_) hi h1 (h _ h3 h4 ?_)
  · refine ⟨?_, frozen_of_row w g _ C e hg⟩
    rw [cell_of_row w g _ C e _ hg]
    simp [hC, hj]
  · rw [h2, List.take_zero, List.drop_eq_nil_of_le (by simp [hC])]; simp

theorem heap_new' (W : World) (o : Obj) (n : Nat) (h : W.heap.size = n) : (W.alloc o).heap[n]? = some o := by subst h; exact heap_alloc_new W o
theorem heap_old' {W : World} {o x : Obj} {n : Nat} (h : W.heap[n]? = some x) : (W.alloc o).heap[n]? = some x := by
  rw [Below.heap_alloc _ _ _ (Array.getElem?_eq_some_iff.1 h).1]; exact h

end Go.Proofs.YtjhjepkmcbjgoaaDoor
end

/- Rows of structs: a list of values, each of so many cells, in a row of the call's own. -/
section
namespace Go.Proofs.YtjhjepkmcbjgoaaDoor
open Go.RowKit

section
variable {α : Type}
def rowsE (enc : α → List Value) (l : List α) : List Value := l.flatMap enc
variable {enc : α → List Value} {m : Nat}
theorem rowsE_cons (x : α) (l : List α) : rowsE enc (x :: l) = enc x ++ rowsE enc l := by simp [rowsE]
theorem rowsE_append (l k : List α) : rowsE enc (l ++ k) = rowsE enc l ++ rowsE enc k := by simp [rowsE]
theorem rowsE_one (x : α) : rowsE enc [x] = enc x := by simp [rowsE]
theorem rowsE_nil : rowsE enc [] = [] := rfl
theorem rowsE_length (hm : ∀ x, (enc x).length = m) (l : List α) : (rowsE enc l).length = l.length * m := by
  induction l with
  | nil => simp [rowsE]
  | cons x l ih => rw [rowsE_cons, List.length_append, hm, ih, List.length_cons, Nat.add_mul]; omega
theorem rowsE_oneCell (h1 : ∀ x, ∀ u ∈ enc x, u.oneCell' = true) (l : List α) : ∀ u ∈ rowsE enc l, u.oneCell' = true := by
  intro u hu
  obtain ⟨x, -, hx⟩ := List.mem_flatMap.1 hu
  exact h1 x u hx
theorem rowsE_get (hm : ∀ x, (enc x).length = m) (l : List α) : ∀ (j : Nat) (h : j < l.length) (i : Nat), i < m → (rowsE enc l)[j * m + i]? = (enc l[j])[i]? := by
  induction l with
  | nil => intro j h; simp at h
  | cons x l ih =>
    intro j h i hi
    rw [rowsE_cons]
    cases j with
    | zero => rw [List.getElem?_append_left (by rw [hm]; omega)]; simp
    | succ j =>
      rw [List.getElem?_append_right (by rw [hm, Nat.add_mul]; omega), hm, List.getElem_cons_succ, ← ih j (by simpa using h) i hi]
      congr 1; rw [Nat.add_mul]; omega
theorem rowsE_set (hm : ∀ x, (enc x).length = m) (l : List α) : ∀ (j : Nat) (_ : j < l.length) (x : α), rowsE enc (l.set j x) = (rowsE enc l).take (j * m) ++ enc x ++ (rowsE enc l).drop (j * m + m) := by
  induction l with
  | nil => intro j h; simp at h
  | cons y l ih =>
    intro j h x
    cases j with
    | zero =>
      rw [List.set_cons_zero, rowsE_cons, rowsE_cons]
      simp [hm]
    | succ j =>
      rw [List.set_cons_succ, rowsE_cons, rowsE_cons, ih j (by simpa using h) x]
      have h1 : (enc y).take ((j + 1) * m) = enc y := List.take_of_length_le (by rw [hm, Nat.add_mul]; omega)
      have h2 : (enc y).drop ((j + 1) * m + m) = [] := List.drop_eq_nil_of_le (by rw [hm, Nat.add_mul]; omega)
      rw [List.take_append, List.drop_append, hm, h1, h2]
      rw [show (j + 1) * m - m = j * m by rw [Nat.add_mul]; omega, show (j + 1) * m + m - m = j * m + m by rw [Nat.add_mul]; omega]
      simp
theorem rows_mid {A vs : List Value} {o k : Nat} (hv : vs.length = m) (h1 : o + m ≤ k) (h2 : k ≤ A.length) : (A.take o ++ vs ++ A.drop (o + m)).take k = (A.take k).take o ++ vs ++ (A.take k).drop (o + m) := by
  have hl : (A.take o ++ vs).length = o + m := by simp [hv]; omega
  rw [List.take_append, hl, List.take_of_length_le (by omega), List.take_take, Nat.min_eq_left (by omega), List.drop_take]

variable {w w' : World} {base g c : Nat} {t : TypeId} {l : List α}
theorem rowsE_some {v : Value} (h : w.ownsRow base t m v l.length (rowsE enc l)) (hn : 0 < l.length) : ∃ g c, v = .slice (some ⟨g, 0, none⟩) l.length c ∧ base ≤ g ∧ g < w.heap.size := by
  rcases h.2 with ⟨h1, h2⟩ | ⟨g, cap, cur, h1, h2, h3, -⟩
  · omega
  · exact ⟨g, cap, h1, h2, (Array.getElem?_eq_some_iff.1 h3).1⟩
theorem rowsE_cell (hm : ∀ x, (enc x).length = m) (h : w.ownsRow base t m (.slice (some ⟨g, 0, none⟩) l.length c) l.length (rowsE enc l)) {j : Nat} (hj : j < l.length) {i : Nat} (hi : i < m) : w.cell? ⟨g, j * m + i, none⟩ = (enc l[j])[i]? := by
  have h1 := rowsE_get hm l j hj i hi
  have h2 : i < (enc l[j]).length := by rw [hm]; exact hi
  rw [List.getElem?_eq_getElem h2] at h1 ⊢
  have := h.cells (g := g) rfl (j * m + i) _ h1
  simpa [Addr.add_mid] using this
theorem rowsE_frozen (h : w.ownsRow base t m (.slice (some ⟨g, 0, none⟩) l.length c) l.length (rowsE enc l)) (i : Nat) : w.frozen? ⟨g, i, none⟩ = false := by
  rcases h.2 with ⟨h1, h2⟩ | ⟨g', cap, cur, h1, h2, h3, -⟩
  · cases h1
  · injection h1 with h1 _ _
    injection h1 with h1
    injection h1 with h1 _ _
    subst h1
    exact frozen_of_row w g _ _ _ h3
theorem rowsE_there (hm : ∀ x, (enc x).length = m) (h : w.ownsRow base t m (.slice (some ⟨g, 0, none⟩) l.length c) l.length (rowsE enc l)) {j : Nat} (hj : j < l.length) : w.there g (j * m) m := by
  intro i hi
  refine ⟨?_, rowsE_frozen h _⟩
  rw [rowsE_cell hm h hj hi, List.getElem?_eq_getElem (by rw [hm]; exact hi)]; rfl
theorem rowsE_range (hm : ∀ x, (enc x).length = m) (h : w.ownsRow base t m (.slice (some ⟨g, 0, none⟩) l.length c) l.length (rowsE enc l)) {j : Nat} (hj : j < l.length) : w.rangeAt g (j * m) (enc l[j]) := by
  intro i v hv
  have hi : i < m := by have := (List.getElem?_eq_some_iff.1 hv).1; rwa [hm] at this
  rw [rowsE_cell hm h hj hi]; exact hv
theorem rowsE_setrow (hm : ∀ x, (enc x).length = m) (h : w.ownsRow base t m (.slice (some ⟨g, 0, none⟩) l.length c) l.length (rowsE enc l)) {j : Nat} (hj : j < l.length) (x : α) :
    (w.setCells g (j * m) (enc x)).ownsRow base t m (.slice (some ⟨g, 0, none⟩) l.length c) l.length (rowsE enc (l.set j x)) ∧ w.grownBy (w.setCells g (j * m) (enc x)) (some g) := by
  rcases h.2 with ⟨h1, h2⟩ | ⟨g', cap, cur, h1, h2, h3, h4, h5, h6, h7⟩
  · cases h1
  · injection h1 with h1 _ h1c
    injection h1 with h1
    injection h1 with h1 _ _
    subst h1 h1c
    have hle : (j + 1) * m ≤ l.length * m := Nat.mul_le_mul_right m hj
    have hle2 : l.length * m ≤ c * m := Nat.mul_le_mul_right m h4
    rw [Nat.add_mul] at hle
    obtain ⟨e1, e2, e3⟩ := heap_setCells (enc x) (j * m) cur w h3 (by rw [hm, h6]; omega)
    rw [hm] at e1
    refine ⟨⟨by rw [rowsE_length hm, List.length_set], .inr ⟨g, c, _, rfl, h2, e1, h4, h5, ?_, ?_⟩⟩, e2⟩
    · simp [hm]; omega
    · show (List.take _ _) = _
      rw [rows_mid (hm x) (by omega) (by simp; omega), h7, rowsE_set hm l j hj x]
/-- one cell of a row is stored -/
theorem rowsE_setcell (hm : ∀ x, (enc x).length = m) (h : w.ownsRow base t m (.slice (some ⟨g, 0, none⟩) l.length c) l.length (rowsE enc l)) {j : Nat} (hj : j < l.length) {i : Nat} (hi : i < m) (u : Value) (x : α) (hx : enc x = (enc l[j]).set i u) :
    (w.setCell ⟨g, j * m + i, none⟩ u).ownsRow base t m (.slice (some ⟨g, 0, none⟩) l.length c) l.length (rowsE enc (l.set j x)) ∧ w.grownBy (w.setCell ⟨g, j * m + i, none⟩ u) (some g) := by
  have hle : (j + 1) * m ≤ l.length * m := Nat.mul_le_mul_right m hj
  rw [Nat.add_mul] at hle
  refine ⟨?_, gb_set (gb_refl w _) (.inl rfl) u⟩
  rcases h.2 with ⟨h1, h2⟩ | ⟨g', cap, cur, h1, h2, h3, h4, h5, h6, h7⟩
  · cases h1
  · injection h1 with h1 _ h1c
    injection h1 with h1
    injection h1 with h1 _ _
    subst h1 h1c
    refine ⟨by rw [rowsE_length hm, List.length_set], .inr ⟨g, c, _, rfl, h2, heap_set h3 _ u, h4, h5, by simpa using h6, ?_⟩⟩
    rw [Array.toList_setIfInBounds, List.take_set, h7, rowsE_set hm l j hj x, hx]
    have hl := rowsE_length hm l
    have hlj := hm l[j]
    have e1 : (rowsE enc l).take (j * m) ++ enc l[j] ++ (rowsE enc l).drop (j * m + m) = rowsE enc l := by
      rw [← rowsE_set hm l j hj l[j]]; simp
    conv => lhs; rw [← e1]
    rw [List.append_assoc, List.append_assoc, List.set_append_right _ _ (by simp; omega), List.length_take, hl, Nat.min_eq_left (by omega), show j * m + i - j * m = i by omega, List.set_append_left _ _ (by omega)]
end
end Go.Proofs.YtjhjepkmcbjgoaaDoor
end

/- Opening of arguments: items, choices, programs, a profile. -/
section
namespace Go.Proofs.YtjhjepkmcbjgoaaDoor
open Go.ChangeShapes Go.WideShapes Go.ChangeAt Go.RowKit Go.Deep Plain

def itmV (x : Itm) : List Value := [.string ⟨x.path.toArray⟩, .int .i64 x.what]
def chcV (x : Chc) : List Value := [.string ⟨x.path.toArray⟩, .int .i64 x.act]
def prgV (x : Prg) : List Value := [.string ⟨x.name.toArray⟩, .string ⟨x.pat.toArray⟩]
def OkInt (n : Int) : Prop := -9223372036854775808 ≤ n ∧ n ≤ 9223372036854775807
instance : Inhabited Itm := ⟨⟨[], 0⟩⟩
instance : Inhabited Chc := ⟨⟨[], 0⟩⟩
instance : Inhabited Prg := ⟨⟨[], []⟩⟩

section
variable {H : Type} {enc : TypeId × Value → H} {w : World} {base : Nat} {held : Bool}
set_option maxRecDepth 100000 in
theorem open_items {r : Reach} {b0 : Nat} {v : Value} {d : DataW H} {ps : List MemPlace} (hval : Value.okWide Tryd.prog w r b0 22 v) (hd : DataW.Trod enc Tryd.prog w base (fun _ => true) held 22 v d ps) :
    ∃ A c, ∃ l : List Itm, v = .slice A l.length c ∧ l.length ≤ c ∧ c ≤ maxLen ∧ IsRows w 2 A (l.map itmV) ∧ (∀ o ∈ l, OkInt o.what) ∧ (l.map fun o => o.path.length + 1).sum ≤ Rows.uptoBulk d := by
  obtain ⟨A, c, l, V, h1, h2, h3, h4, h5, h6, h7⟩ := open_rows (α := Itm) (fun vs x => vs = itmV x ∧ OkInt x.what) (fun x => x.path.length + 1) Tryd.underlying22 Tryd.underlying38 (by kernel_rfl) (by kernel_rfl) (fun vs ys n hv hy hf => by
    obtain ⟨v0, y0, a0, c0, t0⟩ := hf 0 _ rfl
    obtain ⟨v1, y1, a1, c1, t1⟩ := hf 1 _ rfl
    obtain ⟨m0, e0, f0, l0⟩ := trod_str Tryd.underlying9 t0
    obtain ⟨m1, e1, f1, k1⟩ := DataW.trod_int Tryd.underlying3 t1
    simp only [List.cons.injEq, and_true] at e1
    subst e0 e1 f0
    have l1 := bounds_i64 k1
    refine ⟨⟨m0, m1⟩, ⟨?_, l1⟩, ?_⟩
    · match vs, hv with
      | [b0, b1], _ =>
        simp at a0 a1
        rw [a0, a1]; rfl
    · match ys, hy with
      | [z0, z1], _ =>
        simp at c0
        subst c0
        simp only [List.map_cons, List.map_nil, Rows.uptoBulk, Rows.uptoBulkAll]
        omega) hval hd
  have hV : V = l.map itmV := List.ext_getElem (by rw [h4, List.length_map]) (fun k h h' => by rw [(h6 k (by simpa using h') h).1]; simp)
  subst hV
  refine ⟨A, c, l, h1, h2, h3, h5, fun o ho => ?_, h7⟩
  obtain ⟨k, hk, rfl⟩ := List.getElem_of_mem ho
  exact (h6 k hk (by simpa using hk)).2
set_option maxRecDepth 100000 in
theorem open_choices {r : Reach} {b0 : Nat} {v : Value} {d : DataW H} {ps : List MemPlace} (hval : Value.okWide Tryd.prog w r b0 27 v) (hd : DataW.Trod enc Tryd.prog w base (fun _ => true) held 27 v d ps) :
    ∃ A c, ∃ l : List Chc, v = .slice A l.length c ∧ l.length ≤ c ∧ c ≤ maxLen ∧ IsRows w 2 A (l.map chcV) ∧ (∀ o ∈ l, OkInt o.act) ∧ (l.map fun o => o.path.length + 1).sum ≤ Rows.uptoBulk d := by
  obtain ⟨A, c, l, V, h1, h2, h3, h4, h5, h6, h7⟩ := open_rows (α := Chc) (fun vs x => vs = chcV x ∧ OkInt x.act) (fun x => x.path.length + 1) Tryd.underlying27 Tryd.underlying42 (by kernel_rfl) (by kernel_rfl) (fun vs ys n hv hy hf => by
    obtain ⟨v0, y0, a0, c0, t0⟩ := hf 0 _ rfl
    obtain ⟨v1, y1, a1, c1, t1⟩ := hf 1 _ rfl
    obtain ⟨m0, e0, f0, l0⟩ := trod_str Tryd.underlying9 t0
    obtain ⟨m1, e1, f1, k1⟩ := DataW.trod_int Tryd.underlying3 t1
    simp only [List.cons.injEq, and_true] at e1
    subst e0 e1 f0
    have l1 := bounds_i64 k1
    refine ⟨⟨m0, m1⟩, ⟨?_, l1⟩, ?_⟩
    · match vs, hv with
      | [b0, b1], _ =>
        simp at a0 a1
        rw [a0, a1]; rfl
    · match ys, hy with
      | [z0, z1], _ =>
        simp at c0
        subst c0
        simp only [List.map_cons, List.map_nil, Rows.uptoBulk, Rows.uptoBulkAll]
        omega) hval hd
  have hV : V = l.map chcV := List.ext_getElem (by rw [h4, List.length_map]) (fun k h h' => by rw [(h6 k (by simpa using h') h).1]; simp)
  subst hV
  refine ⟨A, c, l, h1, h2, h3, h5, fun o ho => ?_, h7⟩
  obtain ⟨k, hk, rfl⟩ := List.getElem_of_mem ho
  exact (h6 k hk (by simpa using hk)).2
set_option maxRecDepth 100000 in
theorem open_progs {v : Value} {d : DataW H} {ps : List MemPlace} (hd : ∃ fuel, DataW.trod enc Tryd.prog w base (fun _ => true) held fuel 24 [v] = some (d, ps)) :
    ∃ A c, ∃ l : List Prg, v = .slice A l.length c ∧ l.length ≤ c ∧ c ≤ maxLen ∧ IsRows w 2 A (l.map prgV) ∧ (l.map fun o => o.name.length + o.pat.length + 1).sum ≤ Rows.uptoBulk d := by
  obtain ⟨A, c, l, V, h1, h2, h3, h4, h5, h6, h7⟩ := open_rowsT (α := Prg) (fun vs x => vs = prgV x) (fun x => x.name.length + x.pat.length + 1) Tryd.underlying24 Tryd.underlying30 (by kernel_rfl) (by kernel_rfl) (fun vs ys n hv hy hf => by
    obtain ⟨v0, y0, a0, c0, t0⟩ := hf 0 _ rfl
    obtain ⟨v1, y1, a1, c1, t1⟩ := hf 1 _ rfl
    obtain ⟨m0, e0, f0, l0⟩ := trod_str Tryd.underlying9 t0
    obtain ⟨m1, e1, f1, l1⟩ := trod_str Tryd.underlying9 t1
    subst e0 e1 f0 f1
    refine ⟨⟨m0, m1⟩, ?_, ?_⟩
    · match vs, hv with
      | [b0, b1], _ =>
        simp at a0 a1
        rw [a0, a1]; rfl
    · match ys, hy with
      | [z0, z1], _ =>
        simp at c0 c1
        subst c0 c1
        simp only [List.map_cons, List.map_nil, Rows.uptoBulk, Rows.uptoBulkAll]
        omega) hd
  have hV : V = l.map prgV := List.ext_getElem (by rw [h4, List.length_map]) (fun k h h' => by rw [h6 k (by simpa using h') h]; simp)
  subst hV
  exact ⟨A, c, l, h1, h2, h3, h5, h7⟩

/-- A profile, as the laws hand it over. -/
def profV (A0 : Option Addr) (n0 c0 : Nat) (A1 : Option Addr) (n1 c1 : Nat) (A2 : Option Addr) (c2 : Nat) (p : Prf) (fast : Bool) : Value :=
  .agg #[.slice A0 n0 c0, .slice A1 n1 c1, .slice A2 p.merge.length c2, .int .i64 p.prefer, .int .i64 p.force, .bool p.batch, .bool fast]
set_option maxRecDepth 100000 in
theorem open_prof {r : Reach} {b0 : Nat} {v : Value} {d : DataW H} {ps : List MemPlace} (hval : Value.okWide Tryd.prog w r b0 26 v) (hd : DataW.Trod enc Tryd.prog w base (fun _ => true) held 26 v d ps) :
    ∃ A0 n0 c0 A1 n1 c1 A2 c2 p fast, v = profV A0 n0 c0 A1 n1 c1 A2 c2 p fast ∧ p.merge.length ≤ c2 ∧ c2 ≤ maxLen ∧ IsRows w 2 A2 (p.merge.map prgV) ∧ OkInt p.prefer ∧ OkInt p.force ∧ (p.merge.map fun o => o.name.length + o.pat.length + 1).sum ≤ Rows.uptoBulk d := by
  obtain ⟨vs, ys, n, rfl, hv, hy, rfl, hf⟩ := open_aggN Tryd.underlying26 (by kernel_rfl) (by kernel_rfl) hval hd
  obtain ⟨v0, y0, a0, b0, t0⟩ := hf 0 _ rfl
  obtain ⟨v1, y1, a1, b1, t1⟩ := hf 1 _ rfl
  obtain ⟨v2, y2, a2, b2, t2⟩ := hf 2 _ rfl
  obtain ⟨v3, y3, a3, b3, t3⟩ := hf 3 _ rfl
  obtain ⟨v4, y4, a4, b4, t4⟩ := hf 4 _ rfl
  obtain ⟨v5, y5, a5, b5, t5⟩ := hf 5 _ rfl
  obtain ⟨v6, y6, a6, b6, t6⟩ := hf 6 _ rfl
  obtain ⟨A0, n0, c0, e0⟩ := Go.Joins.slice_form Tryd.underlying23 t0
  obtain ⟨A1, n1, c1, e1⟩ := Go.Joins.slice_form Tryd.underlying23 t1
  obtain ⟨A2, c2, l, e2, h2, h3, h4, h5⟩ := open_progs (d := y2.1) (ps := y2.2) ⟨n, t2⟩
  obtain ⟨m3, e3, _, k3⟩ := DataW.trod_int Tryd.underlying3 t3
  obtain ⟨m4, e4, _, k4⟩ := DataW.trod_int Tryd.underlying3 t4
  obtain ⟨m5, e5, _⟩ := DataW.trod_bool Tryd.underlying4 t5
  obtain ⟨m6, e6, _⟩ := DataW.trod_bool Tryd.underlying4 t6
  simp only [List.cons.injEq, and_true] at e0 e1 e3 e4 e5 e6
  subst e0 e1 e2 e3 e4 e5 e6
  refine ⟨A0, n0, c0, A1, n1, c1, A2, c2, ⟨l, m3, m4, m5⟩, m6, ?_, h2, h3, h4, bounds_i64 k3, bounds_i64 k4, ?_⟩
  · match vs, hv with
    | [q0, q1, q2, q3, q4, q5, q6], _ =>
      simp at a0 a1 a2 a3 a4 a5 a6
      rw [a0, a1, a2, a3, a4, a5, a6]; rfl
  · match ys, hy with
    | [z0, z1, z2, z3, z4, z5, z6], _ =>
      simp at b2
      subst b2
      simp only [List.map_cons, List.map_nil, Rows.uptoBulk, Rows.uptoBulkAll]
      omega
end
end Go.Proofs.YtjhjepkmcbjgoaaDoor
end

/- The library's check of UTF-8, laid at this program. -/
section
namespace Go.Proofs.YtjhjepkmcbjgoaaDoor
open Go.RowKit

def lays196_ren : Go.Shelf.Ren := ⟨fun | 196 => 56 | 259 => 74 | n => n, fun | 9 => 9 | 3 => 3 | 4 => 4 | 5 => 5 | 0 => 0 | 12 => 12 | 46 => 103 | 53 => 112 | 119 => 99 | 139 => 102 | 138 => 101 | n => n, fun | 3 => 1 | 4 => 2 | n => n⟩
theorem lays196 : Go.Proofs.Lays.n196 Tryd.prog lays196_ren := {
  mixed := by kernel_rfl
  f196 := Tryd.func56.trans (congrArg some (by kernel_rfl))
  f259 := Tryd.func74.trans (congrArg some (by kernel_rfl))
  t0 := Tryd.underlying0
  a0 := Tryd.isAgg0
  z0 := Tryd.sizeOf0
  v0 := Tryd.zeroValue0
  t3 := Tryd.underlying3
  a3 := Tryd.isAgg3
  z3 := Tryd.sizeOf3
  v3 := Tryd.zeroValue3
  t4 := Tryd.underlying4
  a4 := Tryd.isAgg4
  z4 := Tryd.sizeOf4
  v4 := Tryd.zeroValue4
  t5 := Tryd.underlying5
  a5 := Tryd.isAgg5
  z5 := Tryd.sizeOf5
  v5 := Tryd.zeroValue5
  t9 := Tryd.underlying9
  a9 := Tryd.isAgg9
  z9 := Tryd.sizeOf9
  v9 := Tryd.zeroValue9
  t12 := Tryd.underlying12
  a12 := Tryd.isAgg12
  z12 := Tryd.sizeOf12
  v12 := Tryd.zeroValue12
  t46 := Tryd.underlying103
  a46 := Tryd.isAgg103
  z46 := Tryd.sizeOf103
  v46 := Tryd.zeroValue103
  t53 := Tryd.underlying112
  a53 := Tryd.isAgg112
  z53 := Tryd.sizeOf112
  v53 := Tryd.zeroValue112
  t119 := Tryd.underlying99
  a119 := Tryd.isAgg99
  z119 := Tryd.sizeOf99
  t138 := Tryd.underlying101
  a138 := Tryd.isAgg101
  z138 := Tryd.sizeOf101
  v138 := Tryd.zeroValue101
  t139 := Tryd.underlying102
  a139 := Tryd.isAgg102
  z139 := Tryd.sizeOf102
  v139 := Tryd.zeroValue102
  g3 := by kernel_rfl
  g4 := by kernel_rfl }

/-- The two tables lie where they lie. -/
def Tabs (w : World) : Prop := Lib.Utf8Tabs 1 2 w

theorem ValidString_any (l : List UInt8) (w : World) (hl : l.length ≤ 4294967296) (hT : Tabs w) :
    Calls Tryd.prog 56 #[.string ⟨l.toArray⟩] w (Ret w (.bool (Lib.validD l))) :=
  (Any.utf8_ValidString lays196 ⟨l.toArray⟩ w (by simp [ByteArray.size]; omega) hT).mono fun _ _ ⟨he, hw⟩ => ⟨he, hw⟩
end Go.Proofs.YtjhjepkmcbjgoaaDoor
end
