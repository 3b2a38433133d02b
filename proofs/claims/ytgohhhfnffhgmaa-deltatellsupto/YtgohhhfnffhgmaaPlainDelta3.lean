/- Plain: the steps that are made, by the document's loop; what holds of them. No program in sight. -/
import Derived.Test.YtgohhhfnffhgmaaPlainDelta2
namespace Go.Proofs.Ytgohhhfnffhgmaa.Plain

def goR (data : List UInt8) (l : List Blk) (size : Nat) : Nat → Nat → List Stp → List Stp
  | 0, _, ops => ops
  | f + 1, a, ops => if a < data.length then goR data l size f (stepR data l size a ops).1 (stepR data l size a ops).2 else ops
def makeP (data : List UInt8) (l : List Blk) (size : Nat) : List Stp := goR data l size data.length 0 []
section
variable {data : List UInt8} {l : List Blk} {size : Nat}
theorem pieceD_length (a : Nat) : (pieceD data size a).length = min size (data.length - a) := by unfold pieceD; simp
theorem stepR_on {a : Nat} {ops : List Stp} (hs : 1 ≤ size) (h : a < data.length) : a < (stepR data l size a ops).1 ∧ (stepR data l size a ops).1 ≤ data.length := by
  have := pieceD_length (data := data) (size := size) a
  unfold stepR
  cases matchP l (pieceD data size a) with
  | none => simp; omega
  | some i => simp; omega
theorem goR_done (f a : Nat) (ops : List Stp) (h : data.length ≤ a) : goR data l size f a ops = ops := by
  cases f with
  | zero => rfl
  | succ f => unfold goR; rw [if_neg (by omega)]
theorem goR_enough (hs : 1 ≤ size) : ∀ (f a : Nat) (ops : List Stp), data.length - a ≤ f → goR data l size f a ops = goR data l size (data.length - a) a ops := by
  intro f
  induction f with
  | zero => intro a ops h; rw [show data.length - a = 0 by omega]
  | succ f ih =>
    intro a ops h
    by_cases hlt : a < data.length
    · obtain ⟨k, hk⟩ : ∃ k, data.length - a = k + 1 := ⟨data.length - a - 1, by omega⟩
      have h1 := stepR_on (l := l) (ops := ops) hs hlt
      rw [hk]
      conv => lhs; unfold goR
      conv => rhs; unfold goR
      rw [if_pos hlt, if_pos hlt, ih _ _ (by omega)]
      have : data.length - (stepR data l size a ops).1 ≤ k := by omega
      rcases Nat.le.dest this with ⟨d, hd⟩
      clear ih h
      generalize (stepR data l size a ops).1 = a1 at *
      generalize (stepR data l size a ops).2 = o1 at *
      rw [← hd]
      clear hd this h1 hk hlt
      revert a1 o1
      suffices ∀ n d a1 o1, data.length - a1 = n → goR data l size n a1 o1 = goR data l size (n + d) a1 o1 from fun a1 o1 => this _ d a1 o1 rfl
      intro n
      induction n with
      | zero => intro d a1 o1 h; rw [goR_done _ _ _ (by omega), goR_done _ _ _ (by omega)]
      | succ n ih =>
        intro d a1 o1 h
        rw [show n + 1 + d = (n + d) + 1 by omega]
        unfold goR
        have hlt : a1 < data.length := by omega
        have h2 := stepR_on (l := l) (ops := o1) hs hlt
        rw [if_pos hlt, if_pos hlt]
        generalize (stepR data l size a1 o1).1 = a2 at *
        generalize (stepR data l size a1 o1).2 = o2 at *
        obtain ⟨m, hm⟩ : ∃ m, data.length - a2 = m := ⟨_, rfl⟩
        have hmn : m ≤ n := by omega
        clear h h2 hlt
        revert a2 o2 m
        suffices ∀ m a2 o2, data.length - a2 = m → ∀ f, m ≤ f → goR data l size f a2 o2 = goR data l size m a2 o2 from fun a2 o2 m hm hmn => by rw [this m a2 o2 hm n hmn, this m a2 o2 hm (n + d) (by omega)]
        intro m
        induction m using Nat.strongRecOn with
        | _ m ihm =>
          intro a2 o2 h f hf
          by_cases hm0 : m = 0
          · subst hm0; rw [goR_done _ _ _ (by omega), goR_done _ _ _ (by omega)]
          · obtain ⟨m', rfl⟩ : ∃ m', m = m' + 1 := ⟨m - 1, by omega⟩
            obtain ⟨f', rfl⟩ : ∃ f', f = f' + 1 := ⟨f - 1, by omega⟩
            unfold goR
            have hlt : a2 < data.length := by omega
            have h2 := stepR_on (l := l) (ops := o2) hs hlt
            rw [if_pos hlt, if_pos hlt]
            rw [ihm (data.length - (stepR data l size a2 o2).1) (by omega) _ _ rfl f' (by omega), ihm (data.length - (stepR data l size a2 o2).1) (by omega) _ _ rfl m' (by omega)]
    · rw [goR_done _ _ _ (by omega), goR_done _ _ _ (by omega)]
theorem goR_next (hs : 1 ≤ size) {a : Nat} {ops : List Stp} (h : a < data.length) : goR data l size (data.length - a) a ops = goR data l size (data.length - (stepR data l size a ops).1) (stepR data l size a ops).1 (stepR data l size a ops).2 := by
  obtain ⟨k, hk⟩ : ∃ k, data.length - a = k + 1 := ⟨data.length - a - 1, by omega⟩
  rw [hk]
  have h1 := stepR_on (l := l) (ops := ops) hs h
  conv => lhs; unfold goR
  rw [if_pos h, goR_enough hs _ _ _ (by omega)]
/-- from where the loop stands to what is made -/
def Leads (data : List UInt8) (l : List Blk) (size a : Nat) (ops : List Stp) : Prop := makeP data l size = goR data l size (data.length - a) a ops
theorem Leads.start : Leads data l size 0 [] := rfl
theorem Leads.next {a a1 : Nat} {ops ops1 : List Stp} (h : Leads data l size a ops) (hs : 1 ≤ size) (hlt : a < data.length) (he : stepR data l size a ops = (a1, ops1)) : Leads data l size a1 ops1 := by
  unfold Leads at h ⊢
  rw [h, goR_next hs hlt, he]
theorem Leads.done {a : Nat} {ops : List Stp} (h : Leads data l size a ops) (hle : data.length ≤ a) : makeP data l size = ops := by
  unfold Leads at h
  rw [h, goR_done _ _ _ hle]

/-! ### one step, case by case -/
variable {a i : Nat} {ops init : List Stp} {o : Stp}
theorem step_some_last (hm : matchP l (pieceD data size a) = some i) (h1 : 0 < o.count) (h2 : o.from' + o.count = i) : stepR data l size a (init ++ [o]) = (a + (pieceD data size a).length, init ++ [{ o with count := o.count + 1 }]) := by
  unfold stepR
  rw [hm]
  simp [copyP, h1, h2]
theorem step_some_new (hm : matchP l (pieceD data size a) = some i) (h : ∀ o, ops.getLast? = some o → ¬ (0 < o.count ∧ o.from' + o.count = i)) : stepR data l size a ops = (a + (pieceD data size a).length, ops ++ [⟨i, 1, []⟩]) := by
  unfold stepR
  rw [hm]
  simp only
  unfold copyP
  cases hl : ops.getLast? with
  | none =>
    have : ops = [] := by simpa using hl
    subst this; rfl
  | some p => simp only; rw [if_neg (h p hl)]
theorem step_none_last (hm : matchP l (pieceD data size a) = none) (h1 : o.count = 0) : stepR data l size a (init ++ [o]) = (a + 1, init ++ [{ o with t := o.t ++ [data.getD a 0] }]) := by
  unfold stepR
  rw [hm]
  simp [byteP, h1]
theorem step_none_new (hm : matchP l (pieceD data size a) = none) (h : ∀ o, ops.getLast? = some o → o.count ≠ 0) : stepR data l size a ops = (a + 1, ops ++ [⟨0, 0, [data.getD a 0]⟩]) := by
  unfold stepR
  rw [hm]
  simp only
  unfold byteP
  cases hl : ops.getLast? with
  | none =>
    have : ops = [] := by simpa using hl
    subst this; rfl
  | some p => simp only; rw [if_neg (h p hl)]
end
/-- what holds of steps that have been made -/
def OkOps (L n : Nat) (ops : List Stp) : Prop := ops.length ≤ n ∧ ∀ o ∈ ops, 0 ≤ o.from' ∧ 0 ≤ o.count ∧ o.from' + o.count ≤ L ∧ o.t.length ≤ n
theorem OkOps.nil (L : Nat) : OkOps L 0 [] := ⟨by simp, by simp⟩
theorem OkOps.mono {L n n' : Nat} {ops : List Stp} (h : OkOps L n ops) (hn : n ≤ n') : OkOps L n' ops := ⟨by have := h.1; omega, fun o ho => by have := h.2 o ho; omega⟩
theorem OkOps.add {L n n' : Nat} {ops : List Stp} (h : OkOps L n ops) (hn : n < n') (o : Stp) (ho : 0 ≤ o.from' ∧ 0 ≤ o.count ∧ o.from' + o.count ≤ L ∧ o.t.length ≤ n') : OkOps L n' (ops ++ [o]) := by
  refine ⟨by have := h.1; simp; omega, fun p hp => ?_⟩
  rw [List.mem_append, List.mem_singleton] at hp
  rcases hp with hp | rfl
  · have := h.2 p hp; omega
  · exact ho
theorem OkOps.turn {L n n' : Nat} {init : List Stp} {o : Stp} (h : OkOps L n (init ++ [o])) (hn : n ≤ n') (p : Stp) (hp : 0 ≤ p.from' ∧ 0 ≤ p.count ∧ p.from' + p.count ≤ L ∧ p.t.length ≤ n') : OkOps L n' (init ++ [p]) := by
  refine ⟨by have := h.1; simp at this ⊢; omega, fun q hq => ?_⟩
  rw [List.mem_append, List.mem_singleton] at hq
  rcases hq with hq | rfl
  · have := h.2 q (List.mem_append_left _ hq); omega
  · exact hp
theorem OkOps.last {L n : Nat} {init : List Stp} {o : Stp} (h : OkOps L n (init ++ [o])) : 0 ≤ o.from' ∧ 0 ≤ o.count ∧ o.from' + o.count ≤ L ∧ o.t.length ≤ n := h.2 o (by simp)
theorem set_last {α : Type} (init : List α) (o p : α) : (init ++ [o]).set init.length p = init ++ [p] := by simp
theorem get_last {α : Type} (init : List α) (o : α) (h : init.length < (init ++ [o]).length) : (init ++ [o])[init.length] = o := by simp
theorem nil_or_last {α : Type} (l : List α) : l = [] ∨ ∃ init o, l = init ++ [o] := by
  rcases List.eq_nil_or_concat l with h | ⟨init, o, h⟩
  · exact .inl h
  · exact .inr ⟨init, o, by rw [h]; simp⟩
end Go.Proofs.Ytgohhhfnffhgmaa.Plain
