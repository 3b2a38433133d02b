/- hawserlaw16.MuxWhole: whatever is picked all texts come whole, and none has more than the window on its way. No condition. -/
import Derived.Test.YtknoedlelmflhaaMuxAwake
import Derived.Test.YtknoedlelmflhaaPlainSent
import Derived.Test.YtknoedlelmflhaaWholeRows
import Derived.Test.YtknoedlelmflhaaOpen2
import Derived.Test.YtknoedlelmflhaaTwo
import Derived.Deep.DeepCutAuto
import Derived.Deep.CutBlock
import Derived.Deep.AppendLies
import Derived.Lib.SmallJoins
namespace Go.Proofs.Ytknoedlelmflhaa
open Go.RowKit Plain

/-- a number of 1 to 100 -/
def hundred (n : Int) : Nat := ((n.tmod 100 + 100).tmod 100 + 1).toNat
theorem hundred_wrap (n : Int) : wrap64 ((wrap64 (n.tmod 100 + 100)).tmod 100 + 1) = (hundred n : Nat) := by
  have h1 := Int.tmod_lt_of_pos n (show (0 : Int) < 100 by decide)
  have h2 : -100 < n.tmod 100 := by
    have := Int.tmod_lt_of_pos (-n) (show (0 : Int) < 100 by decide)
    rw [Int.neg_tmod] at this; omega
  have h3 := Int.tmod_lt_of_pos (n.tmod 100 + 100) (show (0 : Int) < 100 by decide)
  have h4 := Int.tmod_nonneg 100 (show (0 : Int) ≤ n.tmod 100 + 100 by omega)
  have e1 : wrap64 (n.tmod 100 + 100) = n.tmod 100 + 100 := by unfold wrap64; omega
  rw [e1]
  have e2 : wrap64 ((n.tmod 100 + 100).tmod 100 + 1) = (n.tmod 100 + 100).tmod 100 + 1 := by unfold wrap64; omega
  rw [e2]
  unfold hundred
  omega
theorem hundred_spec (n : Int) : ((n.tmod 100 + 100).tmod 100 + 1 : Int) = (hundred n : Nat) ∧ 1 ≤ hundred n ∧ hundred n ≤ 100 := by
  have h1 := Int.tmod_lt_of_pos n (show (0 : Int) < 100 by decide)
  have h2 : -100 < n.tmod 100 := by
    have := Int.tmod_lt_of_pos (-n) (show (0 : Int) < 100 by decide)
    rw [Int.neg_tmod] at this; omega
  have h3 := Int.tmod_lt_of_pos (n.tmod 100 + 100) (show (0 : Int) < 100 by decide)
  have h4 := Int.tmod_nonneg 100 (show (0 : Int) ≤ n.tmod 100 + 100 by omega)
  unfold hundred
  omega

def sndOf (t : List UInt8) : Snd := ⟨t, false, 0, 0⟩
theorem units_start (l : List (List UInt8)) (k : Nat) (hk : k ≤ 10) (hs : ∀ j (h : j < l.length), j < k → l[j].length ≤ 200) : units ((l.take k).map sndOf) ≤ 2000 := by
  have h : ∀ (m : List (List UInt8)), (∀ t ∈ m, t.length ≤ 200) → units (m.map sndOf) ≤ 200 * m.length := by
    intro m
    induction m with
    | nil => intro _; simp [units]
    | cons t m ih =>
      intro h
      have h1 := h t (by simp)
      have h2 := ih (fun x hx => h x (by simp [hx]))
      have h3 : unitC (sndOf t) ≤ 200 := by
        unfold unitC sndOf
        split
        · simp; omega
        · omega
      simp only [units, List.map_cons, List.sum_cons, List.length_cons] at h2 ⊢
      omega
  have h4 := h (l.take k) (fun t ht => by
    obtain ⟨j, hj, rfl⟩ := List.mem_iff_getElem.1 ht
    rw [List.getElem_take]
    rw [List.length_take] at hj
    exact hs j (by omega) (by omega))
  have : (l.take k).length ≤ 10 := by simp; omega
  omega
theorem came_start (ts : List (List UInt8)) : Came ts (ts.map sndOf) rcv0 := by
  refine ⟨by simp, fun k hk hk' => ?_⟩
  simp [sndOf, rcv0]
theorem acks_start (ts : List (List UInt8)) : AckOK [] (ts.map sndOf) := by
  intro c hc
  simp only [List.mem_map] at hc
  obtain ⟨t, -, rfl⟩ := hc
  rfl
theorem way_start (win : Nat) (ts : List (List UInt8)) : WayOK win (ts.map sndOf) := by
  intro c hc
  simp only [List.mem_map] at hc
  obtain ⟨t, -, rfl⟩ := hc
  exact Nat.zero_le _
theorem own_below' {w w' : World} {base : Nat} {e : TypeId} {size n : Nat} {v : Value} {xs : List Value} (h : w.ownsRow base e size v n xs) (hb : Below w.heap.size w w') : w'.ownsRow base e size v n xs :=
  own_only h (Only.of_below (S := fun _ => False) hb) (fun _ _ h => h)
/-- the acks that are owed, as they lie -/
def ackV (l : List (Nat × Nat)) : List Value := l.flatMap fun x => [.int .i64 (x.1 : Nat), .int .i64 (x.2 : Nat)]
theorem ackV_append (l m : List (Nat × Nat)) : ackV (l ++ m) = ackV l ++ ackV m := by simp [ackV]
theorem info_owed : (Try.prog.info? 41).map (fun i => (i.zero, i.size, i.bytes)) = some (some (.agg #[.int .i64 0, .int .i64 0]), 2, 16) := by kernel_rfl
theorem ackV_length (l : List (Nat × Nat)) : (ackV l).length = l.length * 2 := by
  induction l with
  | nil => rfl
  | cons x l ih => simp only [ackV, List.flatMap_cons, List.length_append, List.length_cons, List.length_nil] at ih ⊢; omega
theorem ackV_get (l : List (Nat × Nat)) : ∀ (j : Nat) (h : j < l.length), (ackV l)[2 * j]? = some (.int .i64 (l[j].1 : Nat)) ∧ (ackV l)[2 * j + 1]? = some (.int .i64 (l[j].2 : Nat)) := by
  induction l with
  | nil => intro j h; simp at h
  | cons x l ih =>
    intro j h
    cases j with
    | zero => exact ⟨rfl, rfl⟩
    | succ j =>
      have := ih j (by simpa using h)
      simp only [ackV, List.flatMap_cons, List.getElem_cons_succ] at this ⊢
      rw [show 2 * (j + 1) = 2 + 2 * j by omega, show 2 + 2 * j + 1 = 2 + (2 * j + 1) by omega, List.getElem?_append_right (by simp), List.getElem?_append_right (by simp)]
      simpa using this
theorem ackV_oneCell (l : List (Nat × Nat)) : ∀ u ∈ ackV l, u.oneCell' = true := by
  intro u hu
  simp only [ackV, List.mem_flatMap] at hu
  obtain ⟨x, -, hx⟩ := hu
  simp at hx
  rcases hx with rfl | rfl <;> rfl
theorem laid_two (w : World) (u v : Value) (t : TypeId) : ∀ j x, [u, v][j]? = some x → (w.alloc (.cells #[u, v] t)).cell? ((⟨w.heap.size, 0, none⟩ : Addr).add j) = some x := fun j x hx =>
  World.news_of_block (heap_alloc_new w (.cells #[u, v] t)) j x (by simpa using hx)
theorem own_some {w : World} {base : Nat} {e : TypeId} {size n c : Nat} {A : Option Addr} {xs : List Value} (h : w.ownsRow base e size (.slice A n c) n xs) (hn : 0 < n) : ∃ g, A = some ⟨g, 0, none⟩ ∧ g < w.heap.size := by
  rcases h.2 with ⟨h1, h2⟩ | ⟨g, cap, cur, h1, h2, h3, -⟩
  · omega
  · injection h1 with h1
    exact ⟨g, h1, (Array.getElem?_eq_some_iff.1 h3).1⟩
theorem ack_range {w : World} {base g c : Nat} {e : TypeId} {acks : List (Nat × Nat)} (h : w.ownsRow base e 2 (.slice (some ⟨g, 0, none⟩) acks.length c) acks.length (ackV acks)) {j : Nat} (hj : j < acks.length) :
    w.rangeAt g (2 * j) [.int .i64 (acks[j].1 : Nat), .int .i64 (acks[j].2 : Nat)] := by
  intro i v hv
  obtain ⟨h1, h2⟩ := ackV_get acks j hj
  match i with
  | 0 =>
    simp at hv; subst hv
    have := h.cells (g := g) rfl (2 * j) _ h1
    simpa [Addr.add_mid] using this
  | 1 =>
    simp at hv; subst hv
    have := h.cells (g := g) rfl (2 * j + 1) _ h2
    simpa [Addr.add_mid] using this
  | i + 2 => simp at hv
def flagOf (l : List (Nat × Nat)) : Nat := if l = [] then 0 else 1

set_option maxRecDepth 20000 in
set_option maxHeartbeats 4000000 in
theorem MuxWhole_any (A : Option Addr) (c : Nat) (l : List (List UInt8)) (wi si : Int) (B : Option Addr) (c2 : Nat) (ps : List Int) (w : World) (hl : Reads w 1 A l.length (strs l)) (hc : l.length ≤ 9223372036854775807)
    (hp : Reads w 1 B ps.length (ints ps)) (hc2 : ps.length ≤ 9223372036854775807) (hw : -9223372036854775808 ≤ wi ∧ wi ≤ 9223372036854775807) (hs : -9223372036854775808 ≤ si ∧ si ≤ 9223372036854775807) (hps : ∀ n ∈ ps, -9223372036854775808 ≤ n ∧ n ≤ 9223372036854775807) :
    Calls Try.prog 3 #[.slice A l.length c, .agg #[.int .i64 wi, .int .i64 si], .slice B ps.length c2] w (Ret w (.bool true)) := by
  obtain ⟨w1e, w2e, w3e⟩ := hundred_spec wi
  obtain ⟨s1e, s2e, s3e⟩ := hundred_spec si
  have HPS := Lib.hid hps
  have HWS := Lib.hid (And.intro hw hs)
  have hb0 := (Below.refl w.heap.size w).alloc (Nat.le_refl _) (.cells #[.int .i64 wi, .int .i64 si] 24)
  have hbx := heap_alloc_new w (.cells #[.int .i64 wi, .int .i64 si] 24)
  have HBX := Lib.hid hbx
  clear hbx hps
  go_enter Try.func3, Try.ntmps3
  go_wp2_with (fail)
  refine (awake_any _).mono ?_
  rintro e w1 ⟨rfl, hb1⟩
  have hbx1 : w1.heap[w.heap.size]? = some (.cells #[.int .i64 wi, .int .i64 si] 24 (0, 0)) := by rw [hb1.block _ (by simp)]; exact HBX.out
  have hb := hb0.trans (hb1.mono (by simp))
  have q0 := cell_of_row w1 _ 0 _ _ _ hbx1
  have q1 := cell_of_row w1 _ 1 _ _ _ hbx1
  simp at q0 q1
  clear hb0 hb1 HBX
  go_wp2_with (fail)
  go_quiet (fail)
  go_wp2_with (fail)
  rw [hundred_wrap, hundred_wrap]
  clear w1e s1e
  generalize hundred wi = win at *
  generalize hundred si = size at *
  have hbd : Below w.heap.size w (w1.drewN nq) := below_drewN hb _
  clear hb hbx1 q0 q1 hw hs HWS
  generalize World.drewN w1 nq = W0 at *
  refine (NewOut_any (fun _ => False) w.heap.size win size W0 (by omega) (by omega) (fun b h => h.elim) hbd.size).mono ?_
  rintro e w2 ⟨rfl, hb2, ho2⟩
  go_wp2_with (fail)
  have hbd2 : Below w.heap.size w w2 := hbd.trans (hb2.mono hbd.size)
  refine (NewIn_any w.heap.size w2 hbd2.size).mono ?_
  rintro e w3 ⟨rfl, hb3, hi3⟩
  have ho3 := ho2.below hb3
  have hbd3 : Below w.heap.size w w3 := hbd2.trans (hb3.mono hbd2.size)
  have hdis3 : Dis (fun b => W0.heap.size ≤ b ∧ b < w2.heap.size) (fun b => w2.heap.size ≤ b ∧ b < w3.heap.size) := fun b h1 h2 => by omega
  go_upto_block 0 with fail
  have HL := Lib.hid hl
  have HP := Lib.hid hp
  have HB3 := Lib.hid hbd3
  have hbase3 := hbd3.size
  have HS0 : Hid (∃ So Si, OutAt So w.heap.size W0.heap.size win size [] w3 ∧ InAt Si w.heap.size (w2.heap.size + 1) rcv0 0 w3 ∧ Dis So Si) := Lib.hid ⟨_, _, ho3, hi3, hdis3⟩
  clear hl hp hbd3 ho3 hi3 hdis3 hb3 hbd2 ho2 hb2 hbd
  generalize W0.heap.size = bo at *
  generalize w2.heap.size + 1 = bi at *
  go_cut [12, 13, 52] (fun _ _ _ W => ∃ k : Nat, k ≤ l.length ∧ k ≤ 10 ∧ Hid (k = l.length ∨ k = 10 ∨ ∃ h : k < l.length, 200 < l[k].length) ∧ (∀ j (h : j < l.length), j < k → l[j].length ≤ 200) ∧ Hid (Below w.heap.size w W) ∧
    Hid (∃ So Si, OutAt So w.heap.size bo win size ((l.take k).map sndOf) W ∧ InAt Si w.heap.size bi rcv0 0 W ∧ Dis So Si))
  case first =>
    go_wp2_with (fail)
    go_loopw [12, 13, 52] (fun t12 t13 t52 W => ∃ k : Nat, k ≤ l.length ∧ k ≤ 10 ∧ t52 = .int .i64 (k : Nat) ∧ (∀ j (h : j < l.length), j < k → l[j].length ≤ 200) ∧ Hid (Below w.heap.size w W) ∧
      Hid (∃ So Si, OutAt So w.heap.size bo win size ((l.take k).map sndOf) W ∧ InAt Si w.heap.size bi rcv0 0 W ∧ Dis So Si)) (fun _ _ t52 _ => l.length - (intOf t52).toNat)
    case atStart => exact ⟨0, by omega, by omega, rfl, fun j _ h => absurd h (by omega), HB3, by simpa using HS0⟩
    case round =>
      obtain ⟨k, hk, hk10, rfl, hshort, HB, HS⟩ := hrel
      by_cases hlt : k < l.length
      case' neg =>
        have HSTOP : Hid (k = l.length ∨ k = 10 ∨ ∃ h : k < l.length, 200 < l[k].length) := Lib.hid (.inl (by omega))
        obtain rfl : k = l.length := by omega
        go_wp2_with (fail)
      case' pos =>
        obtain ⟨ad, rfl, hcell⟩ := (HL.out.below HB.out).str_at hlt
        by_cases hk1 : k = 10
        case' pos =>
          have hk1' : ((k : Int) == 10) = true := by rw [beq_iff_eq]; omega
          have HSTOP : Hid (k = l.length ∨ k = 10 ∨ ∃ h : k < l.length, 200 < l[k].length) := Lib.hid (.inr (.inl hk1))
          clear hk1
          go_wp2_with (fail)
          clear hk1' hcell
        case' neg =>
          have hk1' : ((k : Int) == 10) = false := by rw [beq_eq_false_iff_ne]; omega
          by_cases hl2 : 200 < l[k].length
          rotate_left
          focus
            obtain ⟨So, Si, ho, hi, hd⟩ := HS.out
            have hP := Put_any l[k] wr ho HB.out.size (by omega)
            have hput : putP ((l.take k).map sndOf) l[k] = ((l.take (k + 1)).map sndOf, (k : Int)) := by
              unfold putP
              rw [if_neg (by simp; omega)]
              rw [List.take_succ_eq_append_getElem hlt, List.map_append]
              simp [sndOf]; omega
            rw [hput] at hP
            go_wp2_with (fail)
            refine hP.mono ?_
            rintro e w4 ⟨rfl, h4, ho4⟩
            go_wp2_with (fail)
            go_roundw
            case rel =>
              have hsub : Below w.heap.size wr w4 := h4.below HB.out.size (fun b hb => by
                obtain ⟨v', ps', h'⟩ := ho
                exact (h'.lain b hb).1)
              refine ⟨k + 1, by omega, by omega, by go_num, fun j hj hjk => ?_, Lib.hid (HB.out.trans hsub), Lib.hid ⟨_, Si, ho4, hi.only h4 hd.symm, ?_⟩⟩
              · by_cases hjk2 : j = k
                · subst hjk2; omega
                · exact hshort j hj (by omega)
              · obtain ⟨m', Pb', v', h'⟩ := hi
                exact hd.grow h'.lain
            case measure => simp [intOf]; omega
          have HSTOP : Hid (k = l.length ∨ k = 10 ∨ ∃ h : k < l.length, 200 < l[k].length) := Lib.hid (.inr (.inr ⟨hlt, hl2⟩))
          go_wp2_with (fail)
          clear hk1' hk1 hcell hl2
      all_goals
        go_meet
        exact ⟨_, hk, hk10, by first | exact HSTOP | exact Lib.hid (.inl rfl), hshort, HB, HS⟩
  case rest =>
    obtain ⟨k, hk, hk10, HSTOP, hshort, HB0, HS1⟩ := hcut
    have hunits := units_start l k hk10 hshort
    have HWB := Lib.hid (And.intro (And.intro w2e w3e) (And.intro s2e s3e))
    have HHC := Lib.hid (And.intro hc hc2)
    have HSHORT := Lib.hid hshort
    clear w2e w3e s2e s3e hc hc2 hshort
    clear HS0 HB3 hbase3
    go_wp2_with (fail)
    go_loopw [14, 15, 16, 17, 18, 20, 21, 22, 104] (fun t14 t15 t16 t17 t18 t20 t21 t22 t104 W => ∃ (cs : List Snd) (r : Rcv) (acks : List (Nat × Nat)) (q : Nat), t15 = .int .i64 (q : Nat) ∧ (q + 2 * units cs + flagOf acks ≤ 4000 ∧ acks.length ≤ q) ∧ Hid (Came (l.take k) cs r) ∧ Hid (AckOK acks cs) ∧ Hid (WayOK win cs) ∧
      W.ownsRow w.heap.size 41 2 t14 acks.length (ackV acks) ∧ Hid (Below w.heap.size w W) ∧
      Hid (∃ So Si, OutAt So w.heap.size bo win size cs W ∧ InAt Si w.heap.size bi r q W ∧ Dis So Si ∧ ∀ g, t14.ownBlock = some g → ¬ So g ∧ ¬ Si g)) (fun _ t15 _ _ _ _ _ _ _ _ => 5000 - (intOf t15).toNat)
    case atStart =>
      obtain ⟨So, Si, ho, hi, hd⟩ := HS1.out
      exact ⟨_, _, [], 0, rfl, ⟨by show 0 + 2 * units ((l.take k).map sndOf) + 0 ≤ 4000; omega, Nat.le_refl _⟩, Lib.hid (came_start _), Lib.hid (acks_start _), Lib.hid (way_start _ _), World.ownsRow_nil _ _ _ _, HB0, Lib.hid ⟨So, Si, ho, hi, hd, fun g hg => by cases hg⟩⟩
    case round =>
      obtain ⟨cs, r, acks, q, rfl, hmeas, HC, HA, HW, hown, HB, HS⟩ := hrel
      obtain ⟨So, Si, ho, hi, hd, hap⟩ := HS.out
      have hL := Left_any wr ho
      have HOWN := Lib.hid hown
      have HSS := Lib.hid (And.intro hi (And.intro hd hap))
      have HSB : Hid ((∀ b, So b → w.heap.size ≤ b ∧ b < wr.heap.size) ∧ ∀ b, Si b → w.heap.size ≤ b ∧ b < wr.heap.size) := Lib.hid ⟨fun b hb => by obtain ⟨v', ps', h'⟩ := ho; exact h'.lain b hb, fun b hb => by obtain ⟨m', Pb', v', h'⟩ := hi; exact h'.lain b hb⟩
      have HMEAS := Lib.hid hmeas
      have hq : decide ((q : Int) < 5000) = true := decide_eq_true (by omega)
      clear hown hap hi hd hmeas hunits
      go_upto_region 17 with fail
      by_cases hleft : leftP cs = 0
      case pos =>
        have hlz : ((leftP cs : Nat) : Int) = 0 := by omega
        rw [hlz] at hL
        go_wp2_with (fail)
        refine hL.mono ?_
        rintro e w4 ⟨rfl, hb4⟩
        have HB4 : Hid (Below w.heap.size w w4) := Lib.hid (HB.out.trans (hb4.mono HB.out.size))
        have HSS4 : Hid (OutAt So w.heap.size bo win size cs w4 ∧ InAt Si w.heap.size bi r q w4) := Lib.hid ⟨ho.below hb4, HSS.out.1.below hb4⟩
        have HTXT : Hid (∀ j (h : j < k), ∃ h' : j < l.length, textP r (j : Nat) = (l[j], true)) := Lib.hid (fun j h => by
          have hok : OkS cs := by obtain ⟨v', ps', h'⟩ := ho; exact h'.ok
          have h1 : j < (l.take k).length := by simp; omega
          have := HC.out.whole hok hleft h1
          refine ⟨by omega, ?_⟩
          rw [this, List.getElem_take])
        have HLEFT := Lib.hid hleft
        clear hb4 ho hL hlz hleft hq
        go_upto_block 6 with fail
        go_cut [23, 24, 25, 26, 148] (fun _ _ _ _ _ W => Hid (OutAt So w.heap.size bo win size cs W) ∧ Hid (Below w.heap.size w W))
        case first =>
          go_wp2_with (fail)
          go_loopw [23, 24, 25, 26, 148] (fun _ _ _ _ t148 W => ∃ j : Nat, j ≤ k ∧ t148 = .int .i64 (j : Nat) ∧ Hid (OutAt So w.heap.size bo win size cs W ∧ InAt Si w.heap.size bi r q W) ∧ Hid (Below w.heap.size w W)) (fun _ _ _ _ t148 _ => l.length - (intOf t148).toNat)
          case atStart => exact ⟨0, by omega, rfl, HSS4, HB4⟩
          case round =>
            obtain ⟨j, hj, rfl, HSJ, HBJ⟩ := hrel
            by_cases hjk : j = k
            case pos =>
              subst hjk
              by_cases hlt : j < l.length
              case neg =>
                obtain rfl : j = l.length := by omega
                go_wp2_with (fail)
                go_meet
                exact ⟨Lib.hid HSJ.out.1, HBJ⟩
              case pos =>
                obtain ⟨ad, rfl, hcell⟩ := (HL.out.below HBJ.out).str_at hlt
                by_cases hk1 : j = 10
                case pos =>
                  have hk1' : ((j : Int) == 10) = true := by rw [beq_iff_eq]; omega
                  clear hk1
                  go_wp2_with (fail)
                  go_meet
                  exact ⟨Lib.hid HSJ.out.1, HBJ⟩
                case neg =>
                  have hk1' : ((j : Int) == 10) = false := by rw [beq_eq_false_iff_ne]; omega
                  have hl2 : 200 < l[j].length := by
                    rcases HSTOP.out with h | h | ⟨h, h'⟩
                    · omega
                    · omega
                    · exact h'
                  go_wp2_with (fail)
                  go_meet
                  exact ⟨Lib.hid HSJ.out.1, HBJ⟩
            case neg =>
              have hjk2 : j < k := by omega
              have hlt : j < l.length := by omega
              obtain ⟨ad, rfl, hcell⟩ := (HL.out.below HBJ.out).str_at hlt
              have hk1' : ((j : Int) == 10) = false := by rw [beq_eq_false_iff_ne]; omega
              have hl2 := HSHORT.out j hlt hjk2
              obtain ⟨h', htx⟩ := HTXT.out j hjk2
              have hT := Text_any (j : Nat) wr HSJ.out.2 (by omega) (by omega)
              rw [htx] at hT
              go_wp2_with (fail)
              refine hT.mono ?_
              rintro e w5 ⟨rfl, hb5⟩
              have HSJ5 : Hid (OutAt So w.heap.size bo win size cs w5 ∧ InAt Si w.heap.size bi r q w5) := Lib.hid ⟨HSJ.out.1.below hb5, HSJ.out.2.below hb5⟩
              have HBJ5 : Hid (Below w.heap.size w w5) := Lib.hid (HBJ.out.trans (hb5.mono HBJ.out.size))
              clear hb5 hT htx
              go_wp2_with (fail)
              go_roundw
              case measure => simp [intOf]; omega
              case rel => exact ⟨j + 1, by omega, by go_num, HSJ5, HBJ5⟩
        case rest =>
          obtain ⟨HOMF, HBF⟩ := hcut
          have hL := Left_any wc HOMF.out
          have hlz : ((leftP cs : Nat) : Int) = 0 := by have := HLEFT.out; omega
          rw [hlz] at hL
          go_wp2_with (fail)
          refine hL.mono ?_
          rintro e w5 ⟨rfl, hb5⟩
          go_wp2_with (fail)
          go_ret
          exact ⟨rfl, HBF.out.trans (hb5.mono HBF.out.size)⟩
      case neg =>
        have HLEFT := Lib.hid hleft
        obtain ⟨z, hz⟩ : ∃ z : Int, ((leftP cs : Nat) : Int) = z := ⟨_, rfl⟩
        rw [hz] at hL
        have HLZ : Hid (0 < z) := Lib.hid (by omega)
        clear hleft hz
        go_wp2_with (fail)
        refine hL.mono ?_
        rintro e w4 ⟨rfl, hb4⟩
        have hzz : decide (0 < z) = true := decide_eq_true HLZ.out
        have hb4' : Below w.heap.size w w4 := HB.out.trans (hb4.mono HB.out.size)
        have HB4 := Lib.hid hb4'
        have HRP := Lib.hid (HP.out.below hb4')
        have hom : OutAt So w.heap.size bo win size cs w4 := ho.below hb4
        clear hb4'
        go_upto_if 81 with fail
        go_cut [16] (fun t16 W => ∃ p : Int, t16 = .int .i64 p ∧ -9223372036854775808 ≤ p ∧ p ≤ 9223372036854775807 ∧ W = w4)
        case first =>
          by_cases hpl : ps.length = 0
          case pos =>
            have hplz : decide (0 < ps.length) = false := decide_eq_false (by omega)
            simp only [hplz]
            clear hpl hplz
            go_wp2_with (fail)
            go_meet
            exact ⟨0, rfl, by omega, by omega, rfl⟩
          case neg =>
            have hplz : decide (0 < ps.length) = true := decide_eq_true (by omega)
            have hlt : q % ps.length < ps.length := Nat.mod_lt _ (by omega)
            obtain ⟨ad, u, rfl, hu, hcell⟩ := HRP.out.at_ hlt
            simp only [hplz]
            clear hpl hplz
            go_wp2_with (fail)
            go_meet
            have hu' : u = .int .i64 ps[q % ps.length] := by
              have := hu
              simp only [ints, List.getElem?_map, List.getElem?_eq_getElem hlt, Option.map_some, Option.some.injEq] at this
              exact this.symm
            have hb := HPS.out _ (List.getElem_mem hlt)
            exact ⟨_, hu', hb.1, hb.2, rfl⟩
        case rest =>
          obtain ⟨p, rfl, hp1, hp2, rfl⟩ := hcut
          have hok : OkS cs := by obtain ⟨v', ps', h'⟩ := ho; exact h'.ok
          obtain ⟨okb, i, a, t, last, cs1, tl, r', n, e1, e2, HAK, ha, ht, hno, hyes⟩ := sent_case (size := size) p HC.out HA.out hok HW.out (by have := HLEFT.out; omega) HWB.out.1.1 HWB.out.2.1
          have hS := Send_any p wc hom (by have := HWB.out; omega) (by have := HWB.out; omega) HWB.out.2.1 hp2
          rw [e1, e2] at hS
          unfold frmV at hS
          have HAK := Lib.hid HAK
          have HNO := Lib.hid hno
          have HYES := Lib.hid hyes
          have HT := Lib.hid (And.intro ha ht)
          have HOM := Lib.hid hom
          have HP2 := Lib.hid (And.intro hp1 hp2)
          clear e1 e2 hno hyes ha ht hok hom ho hL hzz hq hp1 hp2
          go_wp2_with (fail)
          refine hS.mono ?_
          rintro e w5 ⟨rfl, hon5, hom5⟩
          have HOM5 := Lib.hid hom5
          have HON5 := Lib.hid hon5
          have hsz5 := hon5.size
          have HFS : Hid (¬ So w5.heap.size ∧ ¬ Si w5.heap.size) := Lib.hid ⟨fun h => by have := (HSB.out.1 _ h).2; have := hb4.size; omega, fun h => by have := (HSB.out.2 _ h).2; have := hb4.size; omega⟩
          have HBW5 : Hid (Below w.heap.size w w5) := Lib.hid (HB4.out.trans (hon5.below HB4.out.size (fun b hb => (HSB.out.1 b hb).1)))
          clear hom5 hon5
          go_upto_region 23 with fail
          obtain ⟨w6, hw6⟩ : ∃ w6, w5.alloc (.cells #[.int .i64 (i : Nat), .int .i64 (a : Nat), .string ⟨t.toArray⟩, .bool last] 37) = w6 := ⟨_, rfl⟩
          have HFB : Hid (w6.heap[w5.heap.size]? = some (.cells #[.int .i64 (i : Nat), .int .i64 (a : Nat), .string ⟨t.toArray⟩, .bool last] 37 (0, 0))) := Lib.hid (by rw [← hw6]; exact heap_alloc_new _ _)
          have HB56 : Hid (Only (fun _ => False) w5 w6) := Lib.hid (by rw [← hw6]; exact Only.of_below ((Below.refl _ _).alloc (Nat.le_refl _) _))
          rw [hw6]
          have HSZ6 : Hid (w6.heap.size = w5.heap.size + 1) := Lib.hid (by rw [← hw6]; simp)
          have HBW6 : Hid (Below w.heap.size w w6) := Lib.hid (HBW5.out.trans (HB56.out.below HBW5.out.size (fun _ h => h.elim)))
          clear hw6 HBW5
          generalize w5.heap.size = fb at *
          go_cut [101] (fun t101 W => ∃ b : Bool, t101 = .bool b ∧ (okb = false → b = true) ∧ W = w6)
          case first =>
            cases okb
            case' true =>
              go_wp2_with (fail)
              go_meet
              exact ⟨_, rfl, fun h => (Bool.noConfusion h), rfl⟩
            case' false =>
              go_wp2_with (fail)
              go_meet
              exact ⟨_, rfl, fun _ => rfl, rfl⟩
          case rest =>
            obtain ⟨b, rfl, hob, rfl⟩ := hcut
            have HOB := Lib.hid hob
            clear hob
            obtain ⟨A4, c4, rfl, hc4, hm4, -⟩ := IsSlice.of_own HOWN.out
            have HOWN6 : Hid (wc.ownsRow w.heap.size 41 2 (.slice A4 acks.length c4) acks.length (ackV acks)) :=
              Lib.hid (own_only (own_only (own_below' HOWN.out hb4) HON5.out (fun g hg => (HSS.out.2.2 g hg).1)) HB56.out (fun _ _ h => h))
            have HOM6 : Hid (OutAt So w.heap.size bo win size cs1 wc) := Lib.hid (HOM5.out.only HB56.out dis_none)
            have HIN6 : Hid (InAt Si w.heap.size bi r q wc) := Lib.hid (((HSS.out.1.below hb4).only HON5.out HSS.out.2.1.symm).only HB56.out dis_none)
            have HAP := Lib.hid HSS.out.2.2
            have HDIS := Lib.hid HSS.out.2.1
            have HHC4 := Lib.hid (And.intro hc4 hm4)
            clear hb4 HOM5 HON5 HB56 HSS HOWN HOM hc4 hm4
            go_upto_if 101 with fail
            go_cut [14, 20, 104] (fun t14 _ _ W => ∃ (cs2 : List Snd) (acks2 : List (Nat × Nat)), Hid (Acked (l.take k) r' tl win (units cs1) acks2 cs2) ∧ (okb = false → acks2 = []) ∧ acks2.length ≤ acks.length ∧
              W.ownsRow w.heap.size 41 2 t14 acks2.length (ackV acks2) ∧ Hid (Only So wc W) ∧ Hid (OutAt So w.heap.size bo win size cs2 W) ∧ Hid (∀ g, t14.ownBlock = some g → ¬ So g ∧ ¬ Si g))
            case first =>
              cases b
              case false =>
                go_wp2_with (fail)
                go_meet
                exact ⟨cs1, acks, HAK, fun h => absurd (HOB.out h) (by decide), Nat.le_refl _, HOWN6.out, Lib.hid (Only.refl _ _), HOM6, HAP⟩
              case true =>
                go_wp2_with (fail)
                go_loopw [20, 104] (fun _ t104 W => ∃ j : Nat, j ≤ acks.length ∧ t104 = .int .i64 (j : Nat) ∧ ∃ cs2 : List Snd, Hid (Acked (l.take k) r' tl win (units cs1) (acks.drop j) cs2) ∧ Hid (Only So wc W) ∧ Hid (OutAt So w.heap.size bo win size cs2 W)) (fun _ t104 _ => acks.length - (intOf t104).toNat)
                case atStart => exact ⟨0, by omega, rfl, cs1, HAK, Lib.hid (Only.refl _ _), HOM6⟩
                case round =>
                  obtain ⟨j, hj, rfl, cs2, HAK2, HON2, HOM2⟩ := hrel
                  by_cases hlt : j < acks.length
                  case neg =>
                    obtain rfl : j = acks.length := by omega
                    go_wp2_with (fail)
                    go_meet
                    exact ⟨cs2, [], Lib.hid (by simpa using HAK2.out), fun _ => rfl, Nat.zero_le _, World.ownsRow_nil _ _ _ _, HON2, HOM2, Lib.hid (fun g hg => by cases hg)⟩
                  case pos =>
                    obtain ⟨g, rfl, hg⟩ := own_some HOWN6.out (by omega)
                    have hR := ack_range (own_only HOWN6.out HON2.out (fun g hg => (HAP.out g hg).1)) hlt
                    have hA := HAK2.out
                    rw [show acks.drop j = (acks[j].1, acks[j].2) :: acks.drop (j + 1) from List.drop_eq_getElem_cons hlt] at hA
                    have hst := hA.step
                    have hK := fun (W : World) h => Ack_any (S := So) (base := w.heap.size) (bo := bo) (win := win) (size := size) (cs := cs2) (acks[j].1 : Nat) (acks[j].2 : Nat) W h
                    rw [hst.1] at hK
                    have q0 : wr.cell? ⟨g, j * 2, none⟩ = some (.int .i64 (acks[j].1 : Nat)) := by have := hR 0 _ rfl; rw [Nat.mul_comm]; exact this
                    have q1 : wr.cell? ⟨g, j * 2 + 1, none⟩ = some (.int .i64 (acks[j].2 : Nat)) := by have := hR 1 _ rfl; rw [Nat.mul_comm]; exact this
                    have HST := Lib.hid hst.2
                    clear hst hA hR
                    go_wp2_with (fail)
                    refine (hK _ (HOM2.out.below ((Below.refl _ _).alloc (Nat.le_refl _) _))).mono ?_
                    rintro e w7 ⟨rfl, hon7, hom7⟩
                    have HON7 : Hid (Only So wc w7) := Lib.hid ((HON2.out.alloc _).trans hon7)
                    have HOM7 := Lib.hid hom7
                    clear hon7 hom7 hK
                    go_wp2_with (fail)
                    have hj1 : wrap64 ((j : Nat) + 1 : Int) = ((j + 1 : Nat) : Int) := by
                      have := HHC4.out
                      unfold maxLen at this
                      unfold wrap64
                      omega
                    go_roundw
                    case measure => rw [hj1]; simp [intOf]; omega
                    case rel => exact ⟨j + 1, by omega, by rw [hj1], _, HST, HON7, HOM7⟩
            case rest =>
              obtain ⟨cs2, acks2, HAK2, hno2, hlen2, hown2, HON2, HOM2, HAP2⟩ := hcut
              have HOWN2 := Lib.hid hown2
              have HNO2 := Lib.hid hno2
              have HLEN2 := Lib.hid hlen2
              clear hlen2
              have HBW : Hid (Below w.heap.size w wc) := Lib.hid (HBW6.out.trans (HON2.out.below HBW6.out.size (fun b hb => (HSB.out.1 b hb).1)))
              have HIN2 : Hid (InAt Si w.heap.size bi r q wc) := Lib.hid (HIN6.out.only HON2.out HDIS.out.symm)
              have hfb2 : fb < wc.heap.size := by have := HSZ6.out; have := HON2.out.size; omega
              clear hown2 hno2 HOWN6 HOM6 HAK
              cases okb
              case' false =>
                obtain rfl := HNO2.out rfl
                obtain ⟨n1, rfl, rfl, n4⟩ := HNO.out rfl
                have N14 := Lib.hid (And.intro n1 n4)
                clear n1 n4
                go_wp2_with (fail)
                have hq1 : wrap64 ((q : Nat) + 1 : Int) = ((q + 1 : Nat) : Int) := by
                  have := HMEAS.out.1
                  unfold wrap64
                  omega
                go_roundw
                case measure => rw [hq1]; have := HMEAS.out.1; simp [intOf]; omega
                case rel =>
                  obtain ⟨n1, n4⟩ := N14.out
                  have hm := HMEAS.out.1
                  have hfl : flagOf acks = 1 := by unfold flagOf; rw [if_neg n1]
                  refine ⟨cs2, r', [], q + 1, by rw [hq1], ?_, Lib.hid HAK2.out.came, Lib.hid (by simpa using HAK2.out.ok), Lib.hid HAK2.out.way, HOWN2.out, HBW, Lib.hid ⟨So, Si, HOM2.out, ?_, HDIS.out, HAP2.out⟩⟩
                  · rw [HAK2.out.units, n4]; exact ⟨by show q + 1 + 2 * units cs + 0 ≤ 4000; omega, Nat.zero_le _⟩
                  · obtain ⟨m', Pb', v', h'⟩ := HIN2.out
                    exact ⟨m', Pb', v', h'.wider (fun _ h => h) h'.lain (by omega)⟩
              case' true =>
                obtain ⟨y1, rfl, y3, y4⟩ := HYES.out rfl
                have hrow : wc.heap[fb]? = some (.cells #[.int .i64 (i : Nat), .int .i64 (a : Nat), .string ⟨t.toArray⟩, .bool last] 37 (0, 0)) := by
                  rw [HON2.out.block fb (by have := HSZ6.out; omega) HFS.out.1]; exact HFB.out
                have HROW := Lib.hid hrow
                have q0 := cell_of_row wc _ 0 _ _ _ hrow
                have q1 := cell_of_row wc _ 1 _ _ _ hrow
                have q2 := cell_of_row wc _ 2 _ _ _ hrow
                have q3 := cell_of_row wc _ 3 _ _ _ hrow
                have Y := Lib.hid (And.intro y1 y3)
                simp at q0 q1 q2 q3
                have hw := HAK2.out.way.way (i : Nat)
                have hWY := Way_any (i : Nat) wc HOM2.out
                generalize hwp : wayP cs2 (i : Nat) = wy at *
                clear y1 y3 hrow hwp
                go_wp2_with (fail)
                refine hWY.mono ?_
                rintro e w8 ⟨rfl, hb8⟩
                have hrow8 : w8.heap[fb]? = some (.cells #[.int .i64 (i : Nat), .int .i64 (a : Nat), .string ⟨t.toArray⟩, .bool last] 37 (0, 0)) := by
                  rw [hb8.block fb hfb2]; exact HROW.out
                have hsz8 := hb8.size
                have HROW8 := Lib.hid hrow8
                have HBW8 : Hid (Below w.heap.size w w8) := Lib.hid (HBW.out.trans (hb8.mono HBW.out.size))
                have HOM8 : Hid (OutAt So w.heap.size bo win size cs2 w8) := Lib.hid (HOM2.out.below hb8)
                have HIN8 : Hid (InAt Si w.heap.size bi r q w8) := Lib.hid (HIN2.out.below hb8)
                have HOWN8 := Lib.hid (own_below' HOWN2.out hb8)
                have hTK := Take_any (i : Nat) (a : Nat) t last w8 HIN8.out HBW8.out.size (by have := HMEAS.out.1; omega) (by have := HT.out; omega) (by omega) (by have := HT.out; omega)
                rw [Y.out.2] at hTK
                simp only [frmV] at hTK
                have q0 := cell_of_row w8 _ 0 _ _ _ hrow8
                have q1 := cell_of_row w8 _ 1 _ _ _ hrow8
                have q2 := cell_of_row w8 _ 2 _ _ _ hrow8
                have q3 := cell_of_row w8 _ 3 _ _ _ hrow8
                simp at q0 q1 q2 q3
                clear hb8 hrow8 HOWN2 HIN2 HOM2 HBW HROW hWY
                go_wp2_with (fail)
                refine hTK.mono ?_
                rintro e w9 ⟨rfl, hon9, hin9⟩
                have hfb9 : ¬ Si fb := HFS.out.2
                have q0 : w9.cell? ⟨fb, 0, none⟩ = some (.int .i64 (i : Nat)) := by
                  have := World.cell?_of_block (a := ⟨fb, 0, none⟩) (hon9.block fb (by omega) hfb9)
                  rw [this]; exact q0
                obtain ⟨i0, hI1, hI2, hI3, hI4⟩ := info_parts info_owed
                have HI := Lib.hid (And.intro hI1 (And.intro hI2 (And.intro hI3 hI4)))
                have HON9 := Lib.hid hon9
                have HIN9 := Lib.hid hin9
                have HSZ9 := Lib.hid hon9.size
                have HOWN9 := Lib.hid (own_only HOWN8.out hon9 (fun g hg => (HAP2.out g hg).2))
                have HOM9 := Lib.hid (HOM8.out.only hon9 HDIS.out)
                have HBW9 : Hid (Below w.heap.size w w9) := Lib.hid (HBW8.out.trans (hon9.below HBW8.out.size (fun b hb => (HSB.out.2 b hb).1)))
                clear hI1 hI2 hI3 hI4 hon9 hin9
                have hq1 : wrap64 ((q : Nat) + 1 : Int) = ((q + 1 : Nat) : Int) := by
                  have := HMEAS.out.1
                  unfold wrap64
                  omega
                go_wp2_with (at_builtin; refine wpList_append_two rfl _ _ 34 rfl w.heap.size 41 i0 _ 2 16 Try.underlying34 HI.out.1 HI.out.2.1 HI.out.2.2.1 HI.out.2.2.2 rfl (by decide) _ _ _ rfl (HOWN9.out.alloc _) ⟨w9.heap.size, 0, none⟩ 1 1 [.int .i64 (i : Nat), .int .i64 (n : Nat)] rfl rfl (laid_two _ _ _ _) ?c2 ?c3 ?c4 ?c5 ?_)
                case c2 =>
                  intro u hu
                  simp at hu
                  rcases hu with rfl | rfl <;> rfl
                case c3 => have := HMEAS.out.1; have := HMEAS.out.2; have := HLEN2.out; unfold maxLen; omega
                case c4 => have := HMEAS.out.1; have := HMEAS.out.2; have := HLEN2.out; omega
                case c5 => have := HBW9.out.size; simp; omega
                intro v10 w10 hown10 hg10 hl10
                have HOWN10 := Lib.hid hown10
                have HG10 := Lib.hid hg10
                have HL10 := Lib.hid hl10
                clear hown10 hg10 hl10
                go_wp2_with (fail)
                go_roundw
                case measure => rw [hq1]; have := HMEAS.out.1; simp [intOf]; omega
                case rel =>
                  have hO10 : Only (fun b => u14.ownBlock = some b) w9 w10 := ((Only.refl _ w9).alloc _).trans (Only.of_gb HG10.out (fun k hk => hk))
                  obtain ⟨vo, po, h8⟩ := HOM8.out
                  have hL8 := h8.lain
                  obtain ⟨m8, Pb8, vi8, h8i⟩ := HIN8.out
                  have hLI8 := h8i.lain
                  have hgs : ∀ b, u14.ownBlock = some b → ¬ So b ∧ ¬ Grow Si w8 w9 b := fun b hb => ⟨(HAP2.out b hb).1, fun h => by
                    rcases h with h | h
                    · exact (HAP2.out b hb).2 h
                    · have := (HOWN8.out.lt b hb).2; omega⟩
                  have hm := HMEAS.out
                  have hu := HAK2.out.units
                  have hy := Y.out.1
                  have hl2 := HLEN2.out
                  refine ⟨cs2, r', acks2 ++ [(i, n)], q + 1, by rw [hq1], ⟨?_, by simp; omega⟩, Lib.hid HAK2.out.came, Lib.hid HAK2.out.ok, Lib.hid HAK2.out.way, ?_, Lib.hid (HBW9.out.trans (hO10.below HBW9.out.size (fun b hb => (HOWN8.out.lt b hb).1))), Lib.hid ⟨So, Grow Si w8 w9, HOM9.out.only hO10 (fun b hb ht => (hgs b ht).1 hb), HIN9.out.only hO10 (fun b hb ht => (hgs b ht).2 hb), (HDIS.out.symm.grow hL8).symm, ?_⟩⟩
                  · have : flagOf (acks2 ++ [(i, n)]) ≤ 1 := by unfold flagOf; split <;> omega
                    omega
                  · rw [ackV_append, List.length_append]; exact HOWN10.out
                  · intro g hg
                    rcases HL10.out g hg with h | h
                    · exact hgs g h
                    · simp at h
                      have := HSZ9.out
                      exact ⟨fun h' => by have := (hL8 g h').2; omega, fun h' => by
                        rcases h' with h' | h'
                        · have := (hLI8 g h').2; omega
                        · omega⟩

theorem len_max : maxLen ≤ 9223372036854775807 := by unfold maxLen; omega
set_option maxRecDepth 100000 in
open Go.ChangeShapes Go.WideShapes Go.ChangeAt in
/-- What the walk gives, for every argument. -/
theorem MuxWhole_contract (H : Type) (enc : TypeId × Value → H) (W : World) (base : Nat) (args : Array Value) (ds gs : List (DataW H)) (before : List MemPlace)
    (hval : ∀ (j : Nat) t v, Try.f3.params[j]? = some t → args[j]? = some v → Value.okWide Try.prog W .any base t v)
    (hW : DataW.Whole enc Try.prog Try.f3.params.toList Rows.muxWholeSpec.vars false W args.toList ds gs before) :
    Calls Try.prog 3 args W fun e W' => ∃ v, e = .returned v ∧ Rows.muxWholeSpec.post enc Try.prog Try.f3 false true false false W args v W' := by
  have hW' := hW
  obtain ⟨p, q, hA0, hV, rfl, hfz, hnd⟩ := hW
  have hA : DataW.TrodAll enc Try.prog W 0 (fun _ => true) true Try.f3.params.toList args.toList ds p := hA0
  rw [Try.params3] at hA hval
  obtain ⟨v0, vs0, d0, ds0, p0, q0, hargs, rfl, rfl, h0, r0⟩ := trodAll_cons hA
  obtain ⟨v1, vs1, d1, ds1, p1, q1, rfl, rfl, rfl, h1, r1⟩ := trodAll_cons r0
  obtain ⟨v2, vs2, d2, ds2, p2, q2, rfl, rfl, rfl, h2, r2⟩ := trodAll_cons r1
  obtain ⟨rfl, rfl, rfl⟩ := trodAll_nil r2
  obtain rfl : args = #[v0, v1, v2] := by cases args; simp_all
  obtain ⟨rfl, rfl⟩ := trodVars_none hV
  obtain ⟨A0, c0, x0, rfl, hc0, hm0, k0, ks0, kd0⟩ := open_texts Try.underlying22 Try.underlying9 (by kernel_rfl) (hval 0 22 v0 rfl rfl) h0
  obtain ⟨xa1, xb1, ya1, yb1, fu1, rfl, rfl, rfl, ha1, hb1⟩ := Go.Joins.open_agg2 Try.underlying24 (by kernel_rfl) (by kernel_rfl) (hval 1 24 v1 rfl rfl) h1
  obtain ⟨a1, ea1, rfl, ka1⟩ := DataW.trod_int Try.underlying3 ha1
  obtain ⟨b1, eb1, rfl, kb1⟩ := DataW.trod_int Try.underlying3 hb1
  simp only [List.cons.injEq, and_true] at ea1 eb1
  subst ea1 eb1
  have la1 := bounds_i64 ka1
  have lb1 := bounds_i64 kb1
  obtain ⟨A2, c2, x2, rfl, hc2, hm2, k2, ks2, kd2⟩ := open_intsR Try.underlying25 Try.underlying3 (by kernel_rfl) (hval 2 25 v2 rfl rfl) h2
  clear hA0
  refine (MuxWhole_any A0 c0 x0 a1 b1 A2 c2 x2 W k0 (Nat.le_trans hc0 (Nat.le_trans hm0 len_max)) k2 (Nat.le_trans hc2 (Nat.le_trans hm2 len_max)) la1 lb1 ks2).mono ?_
  exact fun e W' ⟨he, hb⟩ => ⟨_, he, law_post rfl hW' rfl (by kernel_rfl) Try.underlying4 (by kernel_rfl) laidOut hb⟩

open Go.ChangeShapes Go.WideShapes Go.ChangeAt in
set_option maxRecDepth 100000 in
theorem MuxWhole_lifted (os : Os) (started : os.Started) (H : Type) (enc : TypeId × Value → H) :
    ReturnsInHanded {} Try.checked os 3 .any (Rows.muxWholeSpec.pre6 enc Try.prog Try.f3 Rows.muxWholeRow.domain false) (Rows.muxWholeSpec.post enc Try.prog Try.f3 false true false false) := by
  refine returnsInHanded_of_change (C := Try.checked) own started (by kernel_rfl) Try.func3
    (ChangeSpec.witness6 (enc := enc) (C := Try.checked) false ⟨#[], #[.slice none 0 0, .agg #[.int .i64 0, .int .i64 0], .slice none 0 0], []⟩ 8 (by kernel_rfl) (by kernel_rfl) (by kernel_rfl) (by kernel_rfl)) ?_
  intro W base args ds gs before hval hW _ _
  exact MuxWhole_contract H enc W base args ds gs before hval hW

theorem MuxWhole_holds : Rows.MuxWholeSaid :=
  OpenClaim.holds_of_wide 3 Try.f3 rfl rfl rfl rfl rfl rfl rfl ⟨rfl, rfl, rfl, rfl, rfl⟩ rfl rfl rfl rfl rfl (by kernel_rfl) Try.func3 (by kernel_rfl)
    (of_decide_eq_true (by kernel_rfl)) (by unfold Func.isWrapper; first | (rw [if_pos (by decide +kernel)]; kernel_rfl) | (rw [if_neg (by decide +kernel)]; exact ⟨rfl, rfl⟩))
    (fun os started H enc _ => MuxWhole_lifted os started H enc)
end Go.Proofs.Ytknoedlelmflhaa
