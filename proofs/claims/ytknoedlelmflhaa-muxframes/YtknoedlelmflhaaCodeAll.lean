/- code.All: texts one behind the other. -/
import Derived.Test.YtknoedlelmflhaaJoin
namespace Go.Proofs.Ytknoedlelmflhaa
open Go.RowKit

set_option maxRecDepth 100000 in
set_option maxHeartbeats 400000 in
theorem All_any (A : Option Addr) (c : Nat) (l : List (List UInt8)) (w : World) (hl : Reads w 1 A l.length (strs l)) (hN : l.length ≤ 140737488355328) (hcap : l.length ≤ c) (hc63 : c ≤ 9223372036854775807)
    (hlen : (Lib.join l []).length ≤ 140737488355328) :
    Calls Try.prog 34 #[.slice A l.length c] w (Ret w (.string ⟨(Lib.join l []).toArray⟩)) := by
  go_enter Try.func34, Try.ntmps34
  go_wp2_with (fail)
  refine (strJoin_any A c l [] w hl hN hcap hc63 hlen).mono ?_
  rintro e w1 ⟨rfl, hb1⟩
  go_wp2_with (fail)
  go_ret
  exact ⟨rfl, hb1⟩

theorem join_nilsep (l : List (List UInt8)) : Lib.join l [] = l.flatten := by
  cases l with
  | nil => rfl
  | cons x r => rw [Lib.join_cons]; simp [Lib.joinTail]

end Go.Proofs.Ytknoedlelmflhaa
