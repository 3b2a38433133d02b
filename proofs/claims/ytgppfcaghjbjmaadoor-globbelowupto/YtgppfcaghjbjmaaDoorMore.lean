/- Rules behind rules: rows of the call's own. -/
import Derived.Test.YtgppfcaghjbjmaaDoorGlob10
import Derived.Test.YtgppfcaghjbjmaaDoorRowsE
import Derived.Test.YtgppfcaghjbjmaaDoorAppendSlice
import Derived.Deep.AppendLies
namespace Go.Proofs.YtgppfcaghjbjmaaDoor
open Go.RowKit Plain

theorem ruleV_length (x : Rule) : (ruleV x).length = 2 := rfl
theorem ruleV_oneCell (x : Rule) : ∀ u ∈ ruleV x, u.oneCell' = true := by intro u hu; simp [ruleV] at hu; rcases hu with rfl | rfl <;> rfl
theorem info_rule : (Tryd.prog.info? 30).map (fun i => (i.zero, i.size, i.bytes)) = some (some (.agg #[.bool false, .string ByteArray.empty]), 2, 24) := by kernel_rfl
theorem below_alloc1 (w : World) (o : Obj) : Below w.heap.size w (w.alloc o) := (Below.refl _ _).alloc (Nat.le_refl _) o
theorem empty_own1 (w : World) (t : TypeId) (size : Nat) : (w.alloc (.cells #[] t)).ownsRow w.heap.size t size (.slice (some ⟨w.heap.size, 0, none⟩) 0 0) 0 [] :=
  ⟨by simp, .inr ⟨w.heap.size, 0, #[], rfl, Nat.le_refl _, heap_alloc_new w _, Nat.le_refl _, by unfold maxLen; omega, by simp, by simp⟩⟩
theorem own_base1 {w : World} {b b' : Nat} {e : TypeId} {size n : Nat} {v : Value} {xs : List Value} (h : w.ownsRow b e size v n xs) (hb : b' ≤ b) : w.ownsRow b' e size v n xs := by
  refine ⟨h.1, ?_⟩
  rcases h.2 with h2 | ⟨g, cap, cur, rfl, hbg, hr⟩
  · exact .inl h2
  · exact .inr ⟨g, cap, cur, rfl, by omega, hr⟩
theorem RulesAt.of_own {w : World} {base : Nat} {e : TypeId} {A : Option Addr} {c n : Nat} {l : List Rule} (h : w.ownsRow base e 2 (.slice A n c) n (rowsE ruleV l)) (hn : n = l.length) : RulesAt w A l := by
  subst hn
  intro k hk
  have hk' : k < l.length := by simpa using hk
  obtain ⟨g, c', e, _, _⟩ := rowsE_some h (by omega)
  injection e with e1 _ e3
  subst e1 e3
  refine ⟨_, rfl, fun j u hu => ?_⟩
  have hj : j < 2 := by
    have := (List.getElem?_eq_some_iff.1 hu).1
    simpa [ruleV] using this
  have := rowsE_cell ruleV_length h hk' hj
  have e2 : (l.map ruleV)[k]'hk = ruleV l[k] := by simp
  rw [e2] at hu
  rw [← hu, ← this]
  congr 1
  unfold Addr.add
  split
  · rename_i q; rw [q]
  · simp
theorem rules_cells {w : World} {ad : Addr} {l : List Rule} (h : RulesAt w (some ad) l) : ∀ j u, (rowsE ruleV l)[j]? = some u → w.cell? (ad.add j) = some u := by
  intro j u hu
  have hj : j < (rowsE ruleV l).length := (List.getElem?_eq_some_iff.1 hu).1
  rw [rowsE_length ruleV_length] at hj
  have hk : j / 2 < l.length := by omega
  have hi : j % 2 < 2 := Nat.mod_lt _ (by omega)
  have e : j = j / 2 * 2 + j % 2 := by omega
  obtain ⟨ad', ha, hc⟩ := h (j / 2) (by simpa using hk)
  injection ha with ha
  subst ha
  have e1 : (l.map ruleV)[j / 2]'(by simpa using hk) = ruleV l[j / 2] := by simp
  rw [e1] at hc
  have h2 := rowsE_get ruleV_length l (j / 2) hk (j % 2) hi
  rw [← e, hu] at h2
  have := hc (j % 2) u h2.symm
  rwa [← e] at this
theorem RulesAt.reads {w : World} {A : Option Addr} {l : List Rule} (h : RulesAt w A l) : Reads w 2 A l.length (rowsE ruleV l) := by
  refine ⟨rowsE_length ruleV_length l, fun h0 => ?_⟩
  obtain ⟨ad, hA, -⟩ := h 0 (by simpa using h0)
  subst hA
  exact ⟨ad, rfl, rules_cells h⟩

theorem reads_row {w : World} {k : Nat} {a b : Value} {t : TypeId} {m : Nat × Nat} (h : w.heap[k]? = some (.cells #[a, b] t m)) : Reads w 2 (some ⟨k, 0, none⟩) 1 [a, b] :=
  ⟨rfl, fun _ => ⟨_, rfl, fun j u hu => by
    have e : (⟨k, 0, none⟩ : Addr).add j = ⟨k, j, none⟩ := by unfold Addr.add; split <;> simp_all
    rw [e]
    unfold World.cell?
    rw [h]
    match j, hu with
    | 0, hu => simpa using hu
    | 1, hu => simpa using hu
    | j + 2, hu => simp at hu⟩⟩

/-- append(s, x...), one operation in a region that draws its order. -/
theorem wp_append_slice {P : Program} {w : World} {o : Oper} {a : Act} {K : Act → World → Prop} {Q : Exit → Act → World → Prop} (s x : Operand) (t : TypeId)
    (ho : o.op = .call { callee := .builtin .append, args := #[s, x], argTypes := #[t, t] })
    (base : Nat) (e : TypeId) (i : TypeInfo) (z : Value) (size bytes : Nat) (ht : P.underlying t = some (.slice e)) (hi : P.info? e = some i) (hz : i.zero = some z)
    (hsize : i.size = size) (hby : i.bytes = bytes) (hzs : z.cells.size = size) (hsz : 0 < size)
    (A : Option Addr) (n cap : Nat) (xs : List Value) (hs : a.eval s = .slice A n cap) (hown : w.ownsRow base e size (.slice A n cap) n xs)
    (X : Option Addr) (m c : Nat) (news : List Value) (hx : a.eval x = .slice X m c) (hl : Reads w size X m news) (h1 : ∀ u ∈ news, u.oneCell' = true)
    (h63 : n + m ≤ maxLen) (hbytes : (n + m) * bytes ≤ 140737488355328) (hbase : base ≤ w.heap.size)
    (h : ∀ A' cap' w', w'.ownsRow base e size (.slice A' (n + m) cap') (n + m) (xs ++ news) → w.grownBy w' (Value.slice A n cap).ownBlock → K (a.put o.dst (.slice A' (n + m) cap')) w') : o.wp P a w K Q := by
  have hle : n ≤ cap := by
    rcases hown.2 with ⟨hv, h0⟩ | ⟨g, cp, cur, hv, _, _, hc, _⟩
    · omega
    · injection hv with h1 h2 h3; omega
  by_cases hm : 0 < m
  · obtain ⟨ad, rfl, hc⟩ := hl.2 hm
    exact wp_append_lies w s x t ho base e i z size bytes ht hi hz hsize hby hzs hsz _ n xs hs hown ad m c news hx hl.1 hc h1 hm h63 hbytes hbase _ rfl fun g cap' w' h2 h3 _ _ => h _ _ _ h2 h3
  · obtain rfl : m = 0 := by omega
    have hn : news = [] := List.eq_nil_of_length_eq_zero (by have := hl.1; simpa using this)
    subst hn
    have h2 := h A cap w (by rw [List.append_nil]; exact hown) (gb_refl w _)
    have hsrc : Src P i.size t (.slice X 0 c) 0 [] w := by
      cases X with
      | none => exact Src.ofNil w ht c
      | some ad => exact Src.ofSlice w ht ad 0 c [] (by simp) (fun j u hu => by simp at hu) (fun u hu => by cases hu)
    have hr := run_append_nothing w t t o.type e i ht hi A n cap hle (.slice X 0 c) hsrc
    unfold Oper.wp execOp
    simp only [ho, resolve, invoke, builtin, Sem.run_bind, Sem.run_pure, Result.andThen_ok, List.map_toArray, List.map_cons, List.map_nil, hs, hx, hr]
    exact h2

/-! what rules ignore, once more -/
namespace Plain
def anyUp (g : List UInt8 → Bool) (s : List UInt8) : Bool := pathOK s && ignN g (parts s)
theorem anyUp_step (g : List UInt8 → Bool) {s : List UInt8} (h : pathOK s = true) : anyUp g s = (g s || (if parentM s = [] then false else anyUp g (parentM s))) := by
  unfold anyUp
  rw [h, Bool.true_and, ignN_step _ (parts_ne s), join_parts]
  congr 1
  by_cases e : parentM s = []
  · rw [if_pos e, (parent_nil h).1 e]; rfl
  · rw [if_neg e, parent_ok h e, Bool.true_and, parent_parts h (fun c => e ((parent_nil h).2 c))]
theorem ignG_twice (l : List Rule) (s : List UInt8) : ignG (l ++ l) s = ignG l s := by
  unfold ignG
  congr 2
  funext x
  exact lastG_twice l x
theorem ignN_congr {g h : List UInt8 → Bool} : ∀ (n : Nat) (l : List (List UInt8)), l.length ≤ n → (∀ p, p <+: l → p ≠ [] → g (joinS p) = h (joinS p)) → ignN g l = ignN h l := by
  intro n l hl hgh
  rw [Bool.eq_iff_iff, ignN_iff g n l hl, ignN_iff h n l hl]
  constructor
  · rintro ⟨p, h1, h2, h3⟩; exact ⟨p, h1, h2, by rw [← hgh p h1 h2]; exact h3⟩
  · rintro ⟨p, h1, h2, h3⟩; exact ⟨p, h1, h2, by rw [hgh p h1 h2]; exact h3⟩
theorem ignG_keeps {l : List Rule} {r : Rule} {s : List UInt8} (h : anyUp (matchG r.pat) s = false) : ignG (l ++ [r]) s = ignG l s := by
  unfold ignG
  cases hok : pathOK s with
  | false => rfl
  | true =>
    unfold anyUp at h
    rw [hok, Bool.true_and] at h
    rw [Bool.true_and, Bool.true_and]
    refine ignN_congr _ _ (Nat.le_refl _) fun p hp hne => ?_
    rw [lastG_snoc, if_neg]
    intro hm
    have := (ignN_iff (matchG r.pat) _ (parts s) (Nat.le_refl _)).2 ⟨p, hp, hne, hm⟩
    rw [this] at h; cases h
end Plain
end Go.Proofs.YtgppfcaghjbjmaaDoor
