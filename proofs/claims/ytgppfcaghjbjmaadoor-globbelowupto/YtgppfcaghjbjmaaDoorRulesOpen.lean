/- Opening of arguments: rules. -/
import Derived.Test.YtgppfcaghjbjmaaDoorGlob9
import Derived.Test.YtgppfcaghjbjmaaDoorOpen3
import Derived.Test.YtgppfcaghjbjmaaDoorTrod
import Derived.Test.YtgppfcaghjbjmaaDoorClose
import Derived.Lib.SmallJoins
namespace Go.Proofs.YtgppfcaghjbjmaaDoor
open Go.ChangeShapes Go.WideShapes Go.ChangeAt Go.RowKit Go.Deep Plain

section
variable {H : Type} {enc : TypeId × Value → H} {w : World} {base : Nat} {held : Bool}
set_option maxRecDepth 100000 in
theorem open_rules {r : Reach} {b0 : Nat} {v : Value} {d : DataW H} {ps : List MemPlace} (hval : Value.okWide Tryd.prog w r b0 28 v) (hd : DataW.Trod enc Tryd.prog w base (fun _ => true) held 28 v d ps) :
    ∃ A c, ∃ l : List Rule, v = .slice A l.length c ∧ l.length ≤ c ∧ c ≤ maxLen ∧ RulesAt w A l ∧ (∀ o ∈ l, o.pat.length ≤ 9223372036854775807) ∧ (l.map fun o => o.pat.length + 1).sum ≤ Rows.uptoBulk d := by
  obtain ⟨A, c, l, V, h1, h2, h3, h4, h5, h6, h7⟩ := open_rows (α := Rule) (fun vs x => vs = ruleV x ∧ x.pat.length ≤ 9223372036854775807) (fun x => x.pat.length + 1) Tryd.underlying28 Tryd.underlying30 (by kernel_rfl) (by kernel_rfl) (fun vs ys n hv hy hf => by
    obtain ⟨v0, y0, a0, c0, t0⟩ := hf 0 _ rfl
    obtain ⟨v1, y1, a1, c1, t1⟩ := hf 1 _ rfl
    obtain ⟨m0, e0, f0⟩ := DataW.trod_bool Tryd.underlying4 t0
    obtain ⟨m1, e1, f1, l1⟩ := trod_str Tryd.underlying9 t1
    simp only [List.cons.injEq, and_true] at e0
    subst e0 e1 f1
    refine ⟨⟨m1, m0⟩, ⟨?_, by unfold maxLen at l1; exact l1⟩, ?_⟩
    · match vs, hv with
      | [b0, b1], _ =>
        simp at a0 a1
        rw [a0, a1]; rfl
    · match ys, hy with
      | [z0, z1], _ =>
        simp at c1
        subst c1
        simp only [List.map_cons, List.map_nil, Rows.uptoBulk, Rows.uptoBulkAll]
        omega) hval hd
  have hV : V = l.map ruleV := List.ext_getElem (by rw [h4, List.length_map]) (fun k h h' => by rw [(h6 k (by simpa using h') h).1]; simp)
  subst hV
  refine ⟨A, c, l, h1, h2, h3, h5, fun o ho => ?_, h7⟩
  obtain ⟨k, hk, rfl⟩ := List.getElem_of_mem ho
  exact (h6 k hk (by simpa using hk)).2
end
theorem rules_sum (l : List Rule) : ∀ o ∈ l, o.pat.length + 1 ≤ (l.map fun o => o.pat.length + 1).sum := by
  induction l with
  | nil => intro o ho; cases ho
  | cons x l ih =>
    intro o ho
    simp only [List.map_cons, List.sum_cons]
    rcases List.mem_cons.1 ho with rfl | ho
    · omega
    · have := ih o ho; omega
end Go.Proofs.YtgppfcaghjbjmaaDoor
