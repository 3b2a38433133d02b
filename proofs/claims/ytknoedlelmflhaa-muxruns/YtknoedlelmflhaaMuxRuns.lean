/- hawserlaw16.MuxRuns. -/
import Derived.Test.YtknoedlelmflhaaFam4
import Derived.Test.YtknoedlelmflhaaRMux4
import Derived.Test.YtknoedlelmflhaaMuxSame
import Derived.Test.YtknoedlelmflhaaQuietRest
import Derived.Test.YtknoedlelmflhaaLoads
import Derived.Test.YtknoedlelmflhaaOpen3
import Derived.Deep.RegionHeld3
import Derived.Deep.DeepCutAuto
import Derived.Deep.CutBlock
namespace Go.Proofs.Ytknoedlelmflhaa
open Go.RowKit Plain

/-- what is asked -/
structure OpR where
  what : Int
  n : Int
  m : Int
  t : List UInt8
  fc : Int
  fa : Int
  ft : List UInt8
  fl : Bool
instance : Inhabited OpR := ⟨⟨0, 0, 0, [], 0, 0, [], false⟩⟩
def opV (x : OpR) : List Value := [.int .i64 x.what, .int .i64 x.n, .int .i64 x.m, .string ⟨x.t.toArray⟩, .int .i64 x.fc, .int .i64 x.fa, .string ⟨x.ft.toArray⟩, .bool x.fl]
def i64 (n : Int) : Prop := -9223372036854775808 ≤ n ∧ n ≤ 9223372036854775807
def OkOp (x : OpR) : Prop := i64 x.what ∧ i64 x.n ∧ i64 x.m ∧ x.t.length ≤ 9223372036854775807 ∧ i64 x.fc ∧ i64 x.fa ∧ x.ft.length ≤ 9223372036854775807

theorem sendV_form (win size : Nat) (cs : List Snd) (pick : Int) (hok : OkS cs) : ∃ (c a : Nat) (t : List UInt8) (l b : Bool), sendV win size cs pick = .tuple #[frmV (c : Nat) (a : Nat) t l, .bool b] ∧ c ≤ 64 ∧ a ≤ 65536 ∧ t.length ≤ 65536 := by
  unfold sendV
  by_cases hm : mays win cs cs.length = []
  · rw [if_pos hm]
    exact ⟨0, 0, [], false, false, rfl, by omega, by omega, by simp⟩
  · rw [if_neg hm]
    obtain ⟨hp, -⟩ := pick_lt pick hm
    have hg : cs.getD (pickP win cs pick) snd0 = cs[pickP win cs pick] := getD_get hp
    obtain ⟨h1, h2, h3⟩ := hok.at_ hp
    refine ⟨_, _, _, _, _, rfl, ?_, ?_, ?_⟩
    · have := hok.1; omega
    · rw [hg]; omega
    · rw [hg]; simp; omega
theorem only_cell {S : Nat → Prop} {w w' : World} (h : Only S w w') {b i : Nat} (hn : ¬ S b) (hb : b < w.heap.size) : w'.cell? ⟨b, i, none⟩ = w.cell? ⟨b, i, none⟩ := World.cell?_of_block (a := ⟨b, i, none⟩) (h.block b hb hn)
theorem below_alloc' (w : World) (o : Obj) : Below w.heap.size w (w.alloc o) := (Below.refl _ _).alloc (Nat.le_refl _) o
set_option maxRecDepth 100000 in
set_option maxHeartbeats 2000000 in
theorem MuxRuns_bad (wi si : Int) (A : Option Addr) (c n : Nat) (w : World) (hbad : wi < 1 ∨ si < 1) :
    Calls Try.prog 4 #[.int .i64 wi, .int .i64 si, .slice A n c] w (Ret w (.bool true)) := by
  have hN := fun W => NewOut_bad wi si W hbad
  have b1 : wi < 1 ∨ (¬ wi < 1 ∧ si < 1) := by omega
  clear hbad
  have hS := fun W => Send_nil 0 W
  unfold frmV at hS
  rcases b1 with b1 | ⟨b1, b2⟩
  case' inl =>
    have d1 : decide (wi < 1) = true := decide_eq_true b1
    clear b1
  case' inr =>
    have d1 : decide (wi < 1) = false := decide_eq_false b1
    have d2 : decide (si < 1) = true := decide_eq_true b2
    clear b1 b2
  all_goals
    go_enter Try.func4, Try.ntmps4
    go_wp2_with (fail)
    refine (awake_any _).mono ?_
    rintro e w1 ⟨rfl, hb1⟩
    go_wp2_with (fail)
    refine (hN _).mono ?_
    rintro e w2 ⟨rfl, hb2⟩
    have B2 := hb1.trans (hb2.mono hb1.size)
    clear hb1 hb2
    go_wp2_with (fail)
    refine (hS _).mono ?_
    rintro e w3 ⟨rfl, hb3⟩
    have B3 := B2.trans (hb3.mono B2.size)
    have B4 := B3.alloc B3.size (.cells #[.int .i64 0, .int .i64 0, .string ⟨#[]⟩, .bool false] 37)
    clear hb3 B2
    go_wp2_with (fail)
    refine (Put_nil [] _).mono ?_
    rintro e w4 ⟨rfl, hb4⟩
    have B5 := B4.trans (hb4.mono B4.size)
    clear hb4 B3 B4
    go_wp2_with (fail)
    refine (Ack_nil 0 0 _).mono ?_
    rintro e w5 ⟨rfl, hb5⟩
    have B6 := B5.trans (hb5.mono B5.size)
    clear hb5 B5
    go_wp2_with (fail)
    refine (Way_nil 0 _).mono ?_
    rintro e w6 ⟨rfl, hb6⟩
    have B7 := B6.trans (hb6.mono B6.size)
    clear hb6 B6
    go_wp2_with (fail)
    refine (Left_nil _).mono ?_
    rintro e w7 ⟨rfl, hb7⟩
    have B8 := B7.trans (hb7.mono B7.size)
    clear hb7 B7
    go_wp2_with (fail)
    go_ret
    exact ⟨rfl, B8⟩

set_option maxRecDepth 100000 in
set_option maxHeartbeats 4000000 in
theorem MuxRuns_good (win size : Nat) (A : Option Addr) (c : Nat) (l : List OpR) (w : World) (h1 : 1 ≤ win) (h2 : 1 ≤ size) (hw : (win : Int) ≤ 9223372036854775807) (hs : (size : Int) ≤ 9223372036854775807) (hl : IsRows w 8 A (l.map opV)) (hll : l.length ≤ 9223372036854775807) (hok : ∀ x ∈ l, OkOp x) :
    Calls Try.prog 4 #[.int .i64 (win : Nat), .int .i64 (size : Nat), .slice A l.length c] w (Ret w (.bool true)) := by
  have HL := Lib.hid hl
  have HOK := Lib.hid hok
  have HWS := Lib.hid (And.intro (And.intro h1 h2) (And.intro hw hs))
  have d1 : decide ((win : Int) < 1) = false := decide_eq_false (by omega)
  have d2 : decide ((size : Int) < 1) = false := decide_eq_false (by omega)
  clear hl hok h1 h2 hw hs
  go_enter Try.func4, Try.ntmps4
  go_wp2_with (fail)
  refine (awake_any _).mono ?_
  rintro e w1 ⟨rfl, hb1⟩
  go_wp2_with (fail)
  refine (NewOut_any (fun _ => False) w.heap.size win size w1 (by have := HWS.out.1.1; omega) (by have := HWS.out.1.2; omega) (fun b h => h.elim) hb1.size).mono ?_
  rintro e w2 ⟨rfl, hb2, ho2⟩
  have B2 := hb1.trans (hb2.mono hb1.size)
  have hs2 := hb2.size
  have HO2 := Lib.hid ho2
  have HB2 := Lib.hid B2
  have HB1 := Lib.hid hb1
  clear ho2 B2 hb2 hb1
  go_wp2_with (fail)
  refine (NewIn_any w.heap.size w2 HB2.out.size).mono ?_
  rintro e w3 ⟨rfl, hb3, hi3⟩
  have B3 := HB2.out.trans (hb3.mono HB2.out.size)
  have hs3 := hb3.size
  have HO3 := Lib.hid (HO2.out.below hb3)
  have HI3 := Lib.hid hi3
  have HB3 := Lib.hid B3
  clear hi3 B3 hb3 HO2
  obtain ⟨w4, hw4⟩ : ∃ w4, ((w3.alloc (.cells #[.int .i64 (win : Nat), .int .i64 (size : Nat), .slice none 0 0] 53)).alloc (.cells #[.slice none 0 0, .slice none 0 0] 56)).alloc (.cells #[.int .i64 0, .int .i64 0, .string ⟨#[]⟩, .bool false] 37) = w4 := ⟨_, rfl⟩
  have hx4 : w4.heap[w3.heap.size]? = some (.cells #[.int .i64 (win : Nat), .int .i64 (size : Nat), .slice none 0 0] 53 (0, 0)) := by rw [← hw4]; exact heap_old' (heap_old' (heap_alloc_new w3 _))
  have hy4 : w4.heap[w3.heap.size + 1]? = some (.cells #[.slice none 0 0, .slice none 0 0] 56 (0, 0)) := by rw [← hw4]; exact heap_old' (heap_new' _ _ _ (by simp))
  have hq4 : w4.heap[w3.heap.size + 1 + 1]? = some (.cells #[.int .i64 0, .int .i64 0, .string ⟨#[]⟩, .bool false] 37 (0, 0)) := by rw [← hw4]; exact heap_new' _ _ _ (by simp)
  have hs4 : w4.heap.size = w3.heap.size + 3 := by rw [← hw4]; simp
  have hb4 : Below w3.heap.size w3 w4 := by rw [← hw4]; exact (((Below.refl _ _).alloc (Nat.le_refl _) _).alloc (by simp) _).alloc (by simp; omega) _
  have hbase3 := HB3.out.size
  have hbase1 := HB1.out.size
  have hbase2 := HB2.out.size
  have hR : RunsAt w.heap.size w1.heap.size (w2.heap.size + 1) w3.heap.size (w3.heap.size + 1) (w3.heap.size + 1 + 1) win size [] rcv0 0 0 0 [] false w4 := by
    refine ⟨fun b => w1.heap.size ≤ b ∧ b < w2.heap.size, fun b => w2.heap.size ≤ b ∧ b < w3.heap.size, fun b => b = w3.heap.size, fun b => b = w3.heap.size + 1, ⟨fun b h1 h2 => by omega, fun b h1 h2 => by omega, fun b h1 h2 => by omega, fun b h1 h2 => by omega, fun b h1 h2 => by omega, fun b h1 h2 => by omega, fun b h => by omega, fun b h => by omega, fun b h => by omega, fun b h => by omega, by omega, by omega, by omega, by omega, by omega, by omega⟩, HO3.out.below hb4, HI3.out.below hb4, ⟨_, hx4, World.ownsRow_nil _ _ _ _, fun e => (by cases e), ⟨rfl, fun g e => (by cases e)⟩, fun b h => by omega, OkS.nil⟩, ⟨[], _, _, hy4, World.ownsRow_nil _ _ _ _, World.ownsRow_nil _ _ _ _, ⟨.inl rfl, fun k h => absurd h (by simp), fun _ _ => rfl⟩, Nat.le_refl _, ⟨fun e => (by cases e), fun e => (by cases e), fun k e => (by cases e)⟩, ⟨rfl, fun g e => (by cases e), fun g e => (by cases e)⟩, fun b h => by omega, OkR.nil⟩, hq4⟩
  have B4 := HB3.out.trans (hb4.mono HB3.out.size)
  have HR4 := Lib.hid hR
  have HB4 := Lib.hid B4
  have HW4 := Lib.hid hw4
  clear hR B4 hw4 hx4 hy4 hq4 hs4 hb4 HO3 HI3 HB1 HB2 HB3 hs2 hs3 hbase1 hbase2
  go_wp2_with (fail)
  rw [HW4.out]
  clear HW4
  have hqb : w.heap.size ≤ w3.heap.size + 1 + 1 := by omega
  generalize w3.heap.size + 1 + 1 = q at *
  generalize w3.heap.size + 1 = by' at *
  generalize w3.heap.size = bx at *
  generalize w2.heap.size + 1 = bi at *
  generalize w1.heap.size = bo at *
  go_loopw [15, 16, 17, 18, 19, 20, 21, 22, 23, 24, 25, 26, 27, 28, 29, 88, 97, 108, 133, 148] (fun _ _ _ _ _ _ _ _ _ _ _ _ _ _ _ t88 _ _ _ _ W => ∃ (k : Nat) (cs : List Snd) (r : Rcv) (fc fa : Int) (ft : List UInt8) (fl : Bool), k ≤ l.length ∧ k ≤ 100 ∧ t88 = .int .i64 (k : Nat) ∧ Hid (i64 fc ∧ i64 fa ∧ ft.length ≤ 9223372036854775807) ∧ Hid (Below w.heap.size w W) ∧ Hid (RunsAt w.heap.size bo bi bx by' q win size cs r k fc fa ft fl W)) (fun _ _ _ _ _ _ _ _ _ _ _ _ _ _ _ t88 _ _ _ _ _ => l.length - (intOf t88).toNat)
  case atStart => exact ⟨0, [], rcv0, 0, 0, [], false, by omega, by omega, rfl, Lib.hid ⟨⟨by omega, by omega⟩, ⟨by omega, by omega⟩, by simp⟩, HB4, HR4⟩
  case round =>
    obtain ⟨k, cs, r, fc, fa, ft, fl, hk, hk100, rfl, HF, HB, HR⟩ := hrel
    by_cases hlt : k < l.length
    case neg =>
      obtain rfl : k = l.length := by omega
      have hkl : decide ((l.length : Int) < (l.length : Nat)) = false := decide_eq_false (by omega)
      go_wp2_with (fail)
      go_ret
      exact ⟨rfl, HB.out⟩
    case pos =>
      have hkl : decide ((k : Int) < (l.length : Nat)) = true := decide_eq_true (by omega)
      obtain ⟨ad, rfl, hc0, hcs⟩ := (HL.out.below HB.out).at_ (k := k) (by simpa using hlt)
      have hrow : (l.map opV)[k]'(by simpa using hlt) = opV l[k] := by simp
      rw [hrow] at hc0 hcs
      have hokx := HOK.out l[k] (List.getElem_mem hlt)
      generalize l[k] = x at *
      obtain ⟨what, n, m, t, gc, ga, gt, gl⟩ := x
      have a0 := hc0 _ rfl
      have a1 := hcs 0 _ rfl
      have a2 := hcs 1 _ rfl
      have a3 := hcs 2 _ rfl
      have a4 := hcs 3 _ rfl
      have a5 := hcs 4 _ rfl
      have a6 := hcs 5 _ rfl
      have a7 := hcs 6 _ rfl
      have HOX := Lib.hid hokx
      clear hc0 hcs hrow hokx
      by_cases h100 : k = 100
      case pos =>
        have h1B : ((k : Int) == 100) = true := by rw [beq_iff_eq]; omega
        clear h100
        go_wp2_with (fail)
        go_ret
        exact ⟨rfl, HB.out.alloc HB.out.size _⟩
      case neg =>
        have h1B : ((k : Int) == 100) = false := by rw [beq_eq_false_iff_ne]; omega
        have HK1 := Lib.hid h100
        have hob := heap_alloc_new wr (.cells #[.int .i64 what, .int .i64 n, .int .i64 m, .string ⟨t.toArray⟩, .int .i64 gc, .int .i64 ga, .string ⟨gt.toArray⟩, .bool gl] 58)
        have hR5 := HR.out.below (below_alloc' wr (.cells #[.int .i64 what, .int .i64 n, .int .i64 m, .string ⟨t.toArray⟩, .int .i64 gc, .int .i64 ga, .string ⟨gt.toArray⟩, .bool gl] 58))
        have hB5 := HB.out.alloc HB.out.size (.cells #[.int .i64 what, .int .i64 n, .int .i64 m, .string ⟨t.toArray⟩, .int .i64 gc, .int .i64 ga, .string ⟨gt.toArray⟩, .bool gl] 58)
        have hfo : ∀ A B C D, Runs w.heap.size bo bi bx by' q win size cs r k fc fa ft fl A B C D wr → ¬ A wr.heap.size ∧ ¬ B wr.heap.size ∧ ¬ C wr.heap.size ∧ ¬ D wr.heap.size ∧ q ≠ wr.heap.size := fun A B C D h => ⟨fun e => by have := (h.fam.la _ e).2; omega, fun e => by have := (h.fam.lb _ e).2; omega, fun e => by have := (h.fam.lc _ e).2; omega, fun e => by have := (h.fam.ld _ e).2; omega, by have := h.fam.lt; omega⟩
        obtain ⟨A0, B0, C0, D0, hR0⟩ := HR.out
        obtain ⟨nA, nB, nC, nD, nq⟩ := hfo _ _ _ _ hR0
        have hR5 := hR0.below (below_alloc' wr (.cells #[.int .i64 what, .int .i64 n, .int .i64 m, .string ⟨t.toArray⟩, .int .i64 gc, .int .i64 ga, .string ⟨gt.toArray⟩, .bool gl] 58))
        have hobl := lt_of_heap9 hob
        go_upto_block 2 with fail
        obtain ⟨w5, hw5⟩ : ∃ w5, wr.alloc (.cells #[.int .i64 what, .int .i64 n, .int .i64 m, .string ⟨t.toArray⟩, .int .i64 gc, .int .i64 ga, .string ⟨gt.toArray⟩, .bool gl] 58) = w5 := ⟨_, rfl⟩
        rw [hw5] at hob hR5 hB5 hobl
        rw [hw5]
        have HOB := Lib.hid hob
        have HR5 := Lib.hid hR5
        have HB5 := Lib.hid hB5
        have HN := Lib.hid (And.intro nA (And.intro nB (And.intro nC (And.intro nD nq))))
        clear hob hR5 hB5 hw5 hR0 hfo nA nB nC nD nq a0 a1 a2 a3 a4 a5 a6 a7 HR HB h100
        generalize wr.heap.size = ob at *
        go_cut [17, 18, 19, 20, 21, 22, 23, 24, 25, 97, 108, 133, 148] (fun _ _ _ _ _ _ _ _ _ _ _ _ _ W => ∃ (cs' : List Snd) (r' : Rcv) (fc' fa' : Int) (ft' : List UInt8) (fl' : Bool), Hid (i64 fc' ∧ i64 fa' ∧ ft'.length ≤ 9223372036854775807) ∧ Hid (Below w.heap.size w W) ∧ Hid (RunsAt w.heap.size bo bi bx by' q win size cs' r' (k + 1) fc' fa' ft' fl' W) ∧ Hid (W.heap[ob]? = some (.cells #[.int .i64 what, .int .i64 n, .int .i64 m, .string ⟨t.toArray⟩, .int .i64 gc, .int .i64 ga, .string ⟨gt.toArray⟩, .bool gl] 58 (0, 0))))
        case first =>
          have R5 := HR5.out.below (below_drew' w5)
          have hobl : ob < w5.heap.size := lt_of_heap9 HOB.out
          have s3 := cell_of_row (World.drew w5) ob 3 _ _ _ HOB.out
          have s1 := cell_of_row (World.drew w5) ob 1 _ _ _ HOB.out
          have s2 := cell_of_row (World.drew w5) ob 2 _ _ _ HOB.out
          have s0 := cell_of_row w5 ob 0 _ _ _ HOB.out
          simp only [List.getElem?_toArray, List.getElem?_cons_zero, List.getElem?_cons_succ] at s0 s1 s2 s3
          have HO := HOX.out
          have HR5D := Lib.hid R5
          clear R5
          by_cases c0 : what = 0
          case pos =>
            subst c0
            have hP := Put_any t (World.drew w5) HR5D.out.out HR5D.out.fam.hb HO.2.2.2.1
            clear HO
            go_wp2_with (fail)
            go_region_held3 (fun W => W.cell? ⟨ob, 3, none⟩ = some (.string ⟨t.toArray⟩)) (first | exact s3 | exact s3b) (first
              | (go_at_call 9; refine hP.mono ?_; rintro e w6 ⟨rfl, h6, k6⟩; have s3b : w6.cell? ⟨ob, 3, none⟩ = some (.string ⟨t.toArray⟩) := (only_cell h6 HN.out.1 hobl).trans s3)
              | (go_at_call 16; refine (RPut_any t w6 (HR5D.out.rout.only h6 HR5D.out.fam.ac.symm) (Nat.le_trans HR5D.out.fam.hb h6.size) HOX.out.2.2.2.1).mono ?_; rintro e w7 ⟨rfl, h7, k7⟩; have s3b : w7.cell? ⟨ob, 3, none⟩ = some (.string ⟨t.toArray⟩) := (only_cell h7 HN.out.2.2.1 (Nat.lt_of_lt_of_le hobl h6.size)).trans s3b))
            have hfin := (HR5D.out.outs h6 k6 h7 k7).more
            have hB5 := HB5.out
            have hB6 := (hB5.trans ((below_drew' w5).mono hB5.size)).trans (h6.below (Nat.le_trans hB5.size (Nat.le_refl _)) (fun b hb => (HR5D.out.fam.la b hb).1))
            have hB7 := hB6.trans (h7.below hB6.size (fun b hb => (HR5D.out.fam.lc b hb).1))
            have hO7 := (h7.block ob (Nat.lt_of_lt_of_le hobl h6.size) HN.out.2.2.1).trans ((h6.block ob hobl HN.out.1).trans HOB.out)
            have HFIN := Lib.hid (And.intro hfin (And.intro hB7 hO7))
            clear hfin hB5 hB6 hB7 hO7 h6 k6 h7 k7 s3b
            go_wp2_with (fail)
            go_meet
            exact ⟨_, _, _, _, _, _, HF, Lib.hid HFIN.out.2.1, Lib.hid ⟨_, _, _, _, HFIN.out.1⟩, Lib.hid HFIN.out.2.2⟩
          case neg =>
            have b0 : (what == 0) = false := by rw [beq_eq_false_iff_ne]; exact c0
            by_cases c2 : what = 2
            case pos =>
              subst c2
              have hP := Ack_any n m (World.drew w5) HR5D.out.out
              clear HO b0 c0
              go_wp2_with (fail)
              go_region_held3 (fun W => W.cell? ⟨ob, 1, none⟩ = some (.int .i64 n) ∧ W.cell? ⟨ob, 2, none⟩ = some (.int .i64 m)) (first | exact ⟨s1, s2⟩ | exact s3b) (first
                | (go_at_call 12; refine hP.mono ?_; rintro e w6 ⟨rfl, h6, k6⟩; have s3b : w6.cell? ⟨ob, 1, none⟩ = some (.int .i64 n) ∧ w6.cell? ⟨ob, 2, none⟩ = some (.int .i64 m) := ⟨(only_cell h6 HN.out.1 hobl).trans s1, (only_cell h6 HN.out.1 hobl).trans s2⟩)
                | (go_at_call 18; refine (RAck_any n m w6 (HR5D.out.rout.only h6 HR5D.out.fam.ac.symm)).mono ?_; rintro e w7 ⟨rfl, h7, k7⟩; have s3b : w7.cell? ⟨ob, 1, none⟩ = some (.int .i64 n) ∧ w7.cell? ⟨ob, 2, none⟩ = some (.int .i64 m) := ⟨(only_cell h7 HN.out.2.2.1 (Nat.lt_of_lt_of_le hobl h6.size)).trans s3b.1, (only_cell h7 HN.out.2.2.1 (Nat.lt_of_lt_of_le hobl h6.size)).trans s3b.2⟩))
              have hfin := (HR5D.out.outs0 h6 k6 h7 k7).more
              have hB5 := HB5.out
              have hB6 := (hB5.trans ((below_drew' w5).mono hB5.size)).trans (h6.below (Nat.le_trans hB5.size (Nat.le_refl _)) (fun b hb => (HR5D.out.fam.la b hb).1))
              have hB7 := hB6.trans (h7.below hB6.size (fun b hb => (HR5D.out.fam.lc b hb).1))
              have hO7 := (h7.block ob (Nat.lt_of_lt_of_le hobl h6.size) HN.out.2.2.1).trans ((h6.block ob hobl HN.out.1).trans HOB.out)
              have HFIN := Lib.hid (And.intro hfin (And.intro hB7 hO7))
              clear hfin hB5 hB6 hB7 hO7 h6 k6 h7 k7 s3b
              go_wp2_with (fail)
              go_meet
              exact ⟨_, _, _, _, _, _, HF, Lib.hid HFIN.out.2.1, Lib.hid ⟨_, _, _, _, HFIN.out.1⟩, Lib.hid HFIN.out.2.2⟩
            case neg =>
              have b2 : (what == 2) = false := by rw [beq_eq_false_iff_ne]; exact c2
              by_cases c1 : what = 1
              case pos =>
                subst c1
                obtain ⟨sc, sa, st, sl, sb, hsv, hst⟩ := sendV_form win size cs n (by obtain ⟨v', ps', h'⟩ := HR5.out.out; exact h'.ok)
                have hP := Send_any n w5 HR5.out.out HWS.out.2.1 HWS.out.2.2 HWS.out.1.2 HO.2.1.2
                have hP2 := fun W h => RSend_any (S := C0) (base := w.heap.size) (bx := bx) (win := win) (size := size) (cs := cs) n W h HWS.out.2.1 HWS.out.2.2 HOX.out.2.1.2
                rw [hsv] at hP hP2
                unfold frmV at hP hP2
                have HP2 := Lib.hid hP2
                have HST := Lib.hid hst
                clear HO b0 b2 c0 c2 hsv hst hP2
                have s1 := cell_of_row w5 ob 1 _ _ _ HOB.out
                simp only [List.getElem?_toArray, List.getElem?_cons_zero, List.getElem?_cons_succ] at s1
                go_wp2_with (fail)
                refine hP.mono ?_
                rintro e w6 ⟨rfl, h6, k6⟩
                obtain ⟨w7, hw7⟩ : ∃ w7, w6.alloc (.cells #[.int .i64 (sc : Nat), .int .i64 (sa : Nat), .string ⟨st.toArray⟩, .bool sl] 37) = w7 := ⟨_, rfl⟩
                have hb67 : Below w6.heap.size w6 w7 := by rw [← hw7]; exact below_alloc' _ _
                have hfr7 : w7.heap[w6.heap.size]? = some (.cells #[.int .i64 (sc : Nat), .int .i64 (sa : Nat), .string ⟨st.toArray⟩, .bool sl] 37 (0, 0)) := by rw [← hw7]; exact heap_alloc_new _ _
                have h7 : Only A0 w5 w7 := h6.trans (Only.of_below hb67)
                have k7 := k6.below hb67
                have ro7 := HR5.out.rout.only h7 HR5.out.fam.ac.symm
                have s17 : w7.cell? ⟨ob, 1, none⟩ = some (.int .i64 n) := (only_cell h7 HN.out.1 hobl).trans s1
                have s16 : w6.cell? ⟨ob, 1, none⟩ = some (.int .i64 n) := (only_cell h6 HN.out.1 hobl).trans s1
                have hob6 : ob < w6.heap.size := Nat.lt_of_lt_of_le hobl h6.size
                have HW7 := Lib.hid hw7
                have H7 := Lib.hid h7
                have K7 := Lib.hid k7
                have hs56 := h6.size
                have hs67 := hb67.size
                have HFR7 := Lib.hid hfr7
                clear hw7 h7 k7 h6 k6 hb67 s1 hP hfr7 s0 s2 s3
                go_wp2_with (fail)
                rw [HW7.out]
                refine (HP2.out w7 ro7).mono ?_
                rintro e w8 ⟨rfl, h8, k8⟩
                obtain ⟨w9, hw9⟩ : ∃ w9, w8.alloc (.cells #[.int .i64 (sc : Nat), .int .i64 (sa : Nat), .string ⟨st.toArray⟩, .bool sl] 37) = w9 := ⟨_, rfl⟩
                have hb89 : Below w8.heap.size w8 w9 := by rw [← hw9]; exact below_alloc' _ _
                have hf29 : w9.heap[w8.heap.size]? = some (.cells #[.int .i64 (sc : Nat), .int .i64 (sa : Nat), .string ⟨st.toArray⟩, .bool sl] 37 (0, 0)) := by rw [← hw9]; exact heap_alloc_new _ _
                have h9 : Only C0 w7 w9 := h8.trans (Only.of_below hb89)
                have hf19 := (h9.block w6.heap.size (lt_of_heap9 HFR7.out) (fun h => by have := (HR5.out.fam.lc _ h).2; omega)).trans HFR7.out
                have hR9 := HR5.out.outs0 H7.out K7.out h9 (k8.below hb89)
                have hO9 := (h9.block ob (by omega) HN.out.2.2.1).trans ((H7.out.block ob hobl HN.out.1).trans HOB.out)
                have hB9 := (HB5.out.trans (H7.out.below HB5.out.size (fun b hb => (HR5.out.fam.la b hb).1))).trans (h9.below (Nat.le_trans HB5.out.size H7.out.size) (fun b hb => (HR5.out.fam.lc b hb).1))
                have hq9 := hR9.last
                have u0 := cell_of_row w9 _ 0 _ _ _ hf19
                have u1 := cell_of_row w9 _ 1 _ _ _ hf19
                have u2 := cell_of_row w9 _ 2 _ _ _ hf19
                have u3 := cell_of_row w9 _ 3 _ _ _ hf19
                have v0 := cell_of_row w9 _ 0 _ _ _ hf29
                have v1 := cell_of_row w9 _ 1 _ _ _ hf29
                have v2 := cell_of_row w9 _ 2 _ _ _ hf29
                have v3 := cell_of_row w9 _ 3 _ _ _ hf29
                simp only [List.getElem?_toArray, List.getElem?_cons_zero, List.getElem?_cons_succ] at u0 u1 u2 u3 v0 v1 v2 v3
                have HW9 := Lib.hid hw9
                have HR9 := Lib.hid hR9.more
                have HO9 := Lib.hid hO9
                have HB9 := Lib.hid hB9
                have HQ9 := Lib.hid hq9
                have HF1 := Lib.hid hf19
                clear hw9 hb89 hf29 h9 hf19 hR9 hO9 hB9 hq9 h8 k8 s17 ro7 s16
                go_upto_region 21 with fail
                rw [HW9.out]
                go_wp2_with (first
                  | (refine wpList_store_row rfl 37 (.tmp 14) (.tmp 132) rfl q #[.int .i64 (sc : Nat), .int .i64 (sa : Nat), .string ⟨st.toArray⟩, .bool sl] _ 37 rfl rfl HQ9.out rfl infoFrame (by simp [Value.oneCell']) ?_))
                intro w10 hg10 hs10 hr10
                have h10 : Only (fun b => b = q) w9 w10 := Only.of_gb hg10 (fun k hk => by injection hk with hk; exact hk.symm)
                have hR10 := HR9.out.setLast h10 hr10
                have hO10 := (h10.block ob (lt_of_heap9 HO9.out) (fun e => HN.out.2.2.2.2 e.symm)).trans HO9.out
                have hB10 := HB9.out.trans (h10.below HB9.out.size (fun b hb => hb ▸ hqb))
                have HFIN := Lib.hid (And.intro hR10 (And.intro hB10 hO10))
                clear h10 hR10 hO10 hB10 hg10 hs10 hr10 u0 u1 u2 u3 v0 v1 v2 v3
                go_wp2_with (fail)
                go_meet
                exact ⟨_, _, _, _, _, _, Lib.hid ⟨⟨by have := HST.out; omega, by have := HST.out; omega⟩, ⟨by have := HST.out; omega, by have := HST.out; omega⟩, by have := HST.out; omega⟩, Lib.hid HFIN.out.2.1, Lib.hid ⟨_, _, _, _, HFIN.out.1⟩, Lib.hid HFIN.out.2.2⟩
              case neg =>
                have b1 : (what == 1) = false := by rw [beq_eq_false_iff_ne]; exact c1
                by_cases c34 : what = 3 ∨ what = 4
                case pos =>
                  have hq5 := HR5.out.last
                  have v0 := cell_of_row w5 _ 0 _ _ _ hq5
                  have v1 := cell_of_row w5 _ 1 _ _ _ hq5
                  have v2 := cell_of_row w5 _ 2 _ _ _ hq5
                  have v3 := cell_of_row w5 _ 3 _ _ _ hq5
                  have s4 := cell_of_row w5 ob 4 _ _ _ HOB.out
                  have s5 := cell_of_row w5 ob 5 _ _ _ HOB.out
                  have s6 := cell_of_row w5 ob 6 _ _ _ HOB.out
                  have s7 := cell_of_row w5 ob 7 _ _ _ HOB.out
                  have hql := HR5.out.fam.lt
                  simp only [List.getElem?_toArray, List.getElem?_cons_zero, List.getElem?_cons_succ] at v0 v1 v2 v3 s4 s5 s6 s7
                  have hnew := heap_alloc_new w5 (.cells #[.int .i64 fc, .int .i64 fa, .string ⟨ft.toArray⟩, .bool fl] 37)
                  have HNEW := Lib.hid hnew
                  have h34 : (what == 3) = true ∨ ((what == 3) = false ∧ (what == 4) = true) := by
                    rcases c34 with h | h
                    · left; simp [h]
                    · right; simp [h]
                  clear hnew hq5 HO c0 c1 c2 s1 s2 s3
                  have hfz := frozen_of_row (w5.alloc (.cells #[.int .i64 fc, .int .i64 fa, .string ⟨ft.toArray⟩, .bool fl] 37)) w5.heap.size 0 _ _ (heap_alloc_new w5 _)
                  clear hfz
                  rcases h34 with b3 | ⟨b3, b4⟩
                  case' inl =>
                    have b4 : (what == 4) = false := by rw [beq_iff_eq] at b3; rw [beq_eq_false_iff_ne]; omega
                    go_upto_region 32 with fail
                    obtain ⟨w6, hw6⟩ : ∃ w6, w5.alloc (.cells #[.int .i64 fc, .int .i64 fa, .string ⟨ft.toArray⟩, .bool fl] 37) = w6 := ⟨_, rfl⟩
                    rw [hw6]
                    have hbb : Below w5.heap.size w5 w6 := by rw [← hw6]; exact below_alloc' _ _
                    have hrow : w6.heap[w5.heap.size]? = some (.cells #[.int .i64 fc, .int .i64 fa, .string ⟨ft.toArray⟩, .bool fl] 37 (0, 0)) := by rw [← hw6]; exact heap_alloc_new _ _
                    have hxx := HF.out
                    obtain ⟨xc, hxc⟩ : ∃ x, x = fc := ⟨_, rfl⟩
                    obtain ⟨xa, hxa⟩ : ∃ x, x = fa := ⟨_, rfl⟩
                    obtain ⟨xt, hxt⟩ : ∃ x, x = ft := ⟨_, rfl⟩
                    obtain ⟨xl, hxl⟩ : ∃ x, x = fl := ⟨_, rfl⟩
                    rw [← hxc, ← hxa, ← hxt, ← hxl] at hrow
                    rw [← hxc, ← hxa, ← hxt] at hxx
                    clear hxc hxa hxt hxl hw6
                  case' inr =>
                    go_upto_region 31 with fail
                    go_wp2_with (refine wpList_store_row rfl 37 (.tmp 21) (.tmp 156) rfl w5.heap.size #[.int .i64 gc, .int .i64 ga, .string ⟨gt.toArray⟩, .bool gl] _ 37 rfl rfl HNEW.out rfl infoFrame (by simp [Value.oneCell']) ?_)
                    intro w6 hg6 hs6 hrow
                    have hbb : Below w5.heap.size w5 w6 := below_gb (below_alloc' w5 _) (by simp) hg6 (Nat.le_refl _)
                    have hxx : i64 gc ∧ i64 ga ∧ gt.length ≤ 9223372036854775807 := ⟨HOX.out.2.2.2.2.1, HOX.out.2.2.2.2.2.1, HOX.out.2.2.2.2.2.2⟩
                    obtain ⟨xc, hxc⟩ : ∃ x, x = gc := ⟨_, rfl⟩
                    obtain ⟨xa, hxa⟩ : ∃ x, x = ga := ⟨_, rfl⟩
                    obtain ⟨xt, hxt⟩ : ∃ x, x = gt := ⟨_, rfl⟩
                    obtain ⟨xl, hxl⟩ : ∃ x, x = gl := ⟨_, rfl⟩
                    rw [← hxc, ← hxa, ← hxt, ← hxl] at hrow
                    rw [← hxc, ← hxa, ← hxt] at hxx
                    clear hxc hxa hxt hxl hg6 hs6
                    go_upto_region 32 with fail
                  all_goals
                    clear v0 v1 v2 v3 s0 s4 s5 s6 s7 b0 b1 b2 b3 b4
                    have hR6 := HR5.out.below hbb
                    have hT := Take_any xc xa xt xl w6 hR6.inn hR6.fam.hb (by omega) hxx.2.2 hxx.2.1.1 hxx.2.1.2
                    have hRT := fun W h hb => RTake_any (S := D0) (base := w.heap.size) (bx := by') (n := k) (r := r) xc xa xt xl W h hb (by omega) hxx.2.2 hxx.1.1 hxx.1.2 hxx.2.1.1 hxx.2.1.2
                    unfold frmV at hT hRT
                    generalize takeP r xc xa xt xl = res at hT hRT
                    obtain ⟨r1, n1, e1⟩ := res
                    simp only at hT hRT
                    have hB6 := HB5.out.trans (hbb.mono HB5.out.size)
                    have hO6 := (hbb.block ob hobl).trans HOB.out
                    have hfq : ¬ B0 w5.heap.size ∧ ¬ D0 w5.heap.size := ⟨fun h => by have := (HR5.out.fam.lb _ h).2; omega, fun h => by have := (HR5.out.fam.ld _ h).2; omega⟩
                    have HRT := Lib.hid hRT
                    have HR6 := Lib.hid hR6
                    have HB6 := Lib.hid hB6
                    have HO6 := Lib.hid hO6
                    have HROW := Lib.hid hrow
                    have HFQ := Lib.hid hfq
                    have u0 := cell_of_row w6 _ 0 _ _ _ hrow
                    have u1 := cell_of_row w6 _ 1 _ _ _ hrow
                    have u2 := cell_of_row w6 _ 2 _ _ _ hrow
                    have u3 := cell_of_row w6 _ 3 _ _ _ hrow
                    simp only [List.getElem?_toArray, List.getElem?_cons_zero, List.getElem?_cons_succ] at u0 u1 u2 u3
                    clear hRT hR6 hB6 hO6 hrow hfq hxx hbb
                    go_wp2_with (fail)
                    refine hT.mono ?_
                    rintro e w7 ⟨rfl, h7, k7⟩
                    have hrow7 := (h7.block _ (lt_of_heap9 HROW.out) HFQ.out.1).trans HROW.out
                    have v0 := cell_of_row w7 _ 0 _ _ _ hrow7
                    have v1 := cell_of_row w7 _ 1 _ _ _ hrow7
                    have v2 := cell_of_row w7 _ 2 _ _ _ hrow7
                    have v3 := cell_of_row w7 _ 3 _ _ _ hrow7
                    simp only [List.getElem?_toArray, List.getElem?_cons_zero, List.getElem?_cons_succ] at v0 v1 v2 v3
                    have ro7 := HR6.out.rinn.only h7 HR6.out.fam.bd.symm
                    have H7 := Lib.hid h7
                    have K7 := Lib.hid k7
                    have hs67 := h7.size
                    clear h7 k7 hrow7 u0 u1 u2 u3 hT
                    go_wp2_with (fail)
                    refine (HRT.out w7 ro7 (Nat.le_trans HR6.out.fam.hb hs67)).mono ?_
                    rintro e w8 ⟨rfl, h8, k8⟩
                    have hR8 := HR6.out.inns H7.out K7.out h8 k8
                    have hO8 := (h8.block ob (Nat.lt_of_lt_of_le (lt_of_heap9 HO6.out) hs67) HN.out.2.2.2.1).trans ((H7.out.block ob (lt_of_heap9 HO6.out) HN.out.2.1).trans HO6.out)
                    have hB8 := (HB6.out.trans (H7.out.below HB6.out.size (fun b hb => (HR6.out.fam.lb b hb).1))).trans (h8.below (Nat.le_trans HB6.out.size hs67) (fun b hb => (HR6.out.fam.ld b hb).1))
                    have HFIN := Lib.hid (And.intro hR8 (And.intro hB8 hO8))
                    clear hR8 hO8 hB8 h8 k8 v0 v1 v2 v3 ro7
                    go_wp2_with (fail)
                    go_meet
                    exact ⟨_, _, _, _, _, _, HF, Lib.hid HFIN.out.2.1, Lib.hid ⟨_, _, _, _, HFIN.out.1⟩, Lib.hid HFIN.out.2.2⟩
                case neg =>
                  have b3 : (what == 3) = false := by rw [beq_eq_false_iff_ne]; omega
                  have b4 : (what == 4) = false := by rw [beq_eq_false_iff_ne]; omega
                  have hfin := HR5.out.more
                  have HFIN := Lib.hid hfin
                  clear c0 c1 c2 c34 hfin HO
                  go_wp2_with (fail)
                  go_meet
                  exact ⟨_, _, _, _, _, _, HF, HB5, Lib.hid ⟨_, _, _, _, HFIN.out⟩, HOB⟩
        case rest =>
          obtain ⟨cs', r', fc', fa', ft', fl', HF', HB', HR', HO'⟩ := hcut
          obtain ⟨A1, B1, C1, D1, hR1⟩ := HR'.out
          have o1 := cell_of_row wc ob 1 _ _ _ HO'.out
          simp only [List.getElem?_toArray, List.getElem?_cons_zero, List.getElem?_cons_succ] at o1
          have hol := lt_of_heap9 HO'.out
          have hn := HOX.out.2.1
          have hT := InText_any n wc hR1.inn hn.1 hn.2
          have hT2 := fun W h => RText_any' (S := D1) (base := w.heap.size) (bx := by') (n := k + 1) (r := r') n W h
          generalize textP r' n = tx at hT hT2
          obtain ⟨xt, xb⟩ := tx
          simp only at hT hT2
          have HT2 := Lib.hid hT2
          have HR1 := Lib.hid hR1
          clear hR1 hT2 hn HR' HR5 HB5 HOB
          go_wp2_with (fail)
          refine hT.mono ?_
          rintro e w6 ⟨rfl, hb6⟩
          have o16 : w6.cell? ⟨ob, 1, none⟩ = some (.int .i64 n) := (hb6.cell (p := ⟨ob, 1, none⟩) hol).trans o1
          have hR6 := HR1.out.below hb6
          have HB6 := Lib.hid (HB'.out.trans (hb6.mono HB'.out.size))
          have ro := hR6.rinn
          have HR6 := Lib.hid hR6
          have hol6 : ob < w6.heap.size := Nat.lt_of_lt_of_le hol hb6.size
          clear hb6 hR6 hT o1
          go_wp2_with (fail)
          refine (HT2.out w6 ro).mono ?_
          rintro e w7 ⟨rfl, hb7⟩
          have O17 := Lib.hid (show w7.cell? ⟨ob, 1, none⟩ = some (.int .i64 n) from (hb7.cell (p := ⟨ob, 1, none⟩) hol6).trans o16)
          have HR7 := Lib.hid (HR6.out.below hb7)
          have HB7 := Lib.hid (HB6.out.trans (hb7.mono HB6.out.size))
          clear hb7 o16 ro
          have hW1 : Hid (∀ W, Below w7.heap.size w7 W → Calls Try.prog 13 #[.pointer (some ⟨bo, 0, none⟩), .int .i64 n] W (Ret W (.int .i64 (wayP cs' n : Nat)))) := Lib.hid (fun W hW => Way_any n W (HR7.out.out.below hW))
          have hW2 : Hid (∀ W, Below w7.heap.size w7 W → Calls Try.prog 21 #[.pointer (some ⟨bx, 0, none⟩), .int .i64 n] W (Ret W (.int .i64 (wayP cs' n : Nat)))) := Lib.hid (fun W hW => RWay_any n W (HR7.out.rout.below hW))
          have hL1 : Hid (∀ W, Below w7.heap.size w7 W → Calls Try.prog 10 #[.pointer (some ⟨bo, 0, none⟩)] W (Ret W (.int .i64 (leftP cs' : Nat)))) := Lib.hid (fun W hW => Left_any W (HR7.out.out.below hW))
          have hL2 : Hid (∀ W, Below w7.heap.size w7 W → Calls Try.prog 22 #[.pointer (some ⟨bx, 0, none⟩)] W (Ret W (.int .i64 (leftP cs' : Nat)))) := Lib.hid (fun W hW => RLeftOut_any W (HR7.out.rout.below hW))
          generalize wayP cs' n = wy at hW1 hW2
          generalize leftP cs' = lf at hL1 hL2
          go_wp2_with (fail)
          refine wp_region_quiet_rest 26 (by kernel_rfl) (by kernel_rfl) ?_
          simp only [List.take]
          repeat first
            | (go_big_quiet_want; refine quiet_load_cell 3 _ rfl _ rfl _ _ O17.out Try.underlying3 rfl ?_; simp only [Act.put, List.setIfInBounds_toArray, List.set_cons_succ, List.set_cons_zero]; go_big_quiet_on)
            | go_big_quiet_step ((intro hW; first | (go_at_call 13; exact Ret.quiet hW (hW1.out _ hW)) | (go_at_call 21; exact Ret.quiet hW (hW2.out _ hW)) | (go_at_call 10; exact Ret.quiet hW (hL1.out _ hW)) | (go_at_call 22; exact Ret.quiet hW (hL2.out _ hW))))
          refine wpQuiet_nil ?_
          intro W8 hW8
          have hR8 := HR7.out.below hW8
          have hB8 := HB7.out.trans (hW8.mono HB7.out.size)
          have hD := Done_any W8 hR8.inn (by omega)
          obtain ⟨Lx, vx, ux, hri⟩ := hR8.rinn
          have hend := hri.ended
          have hfew := hri.few
          have d1 := hri.facts.2.1
          have hyl := (hri.lain by' hri.inS.1).2
          obtain ⟨A9, c9, rfl, -, -, hRu⟩ := IsSlice.of_own hend
          have HRU := Lib.hid hRu
          have HR8 := Lib.hid hR8
          have HB8 := Lib.hid hB8
          have HFEW := Lib.hid hfew
          clear hri hend hRu hR8 hB8 hfew hW8
          show wpAny _ _ _ _ (8 + 1) _ _ _
          refine wpAny_take (i := 27) (v := .pointer (some ⟨bi, 0, none⟩)) rfl (by kernel_rfl) (by kernel_rfl) (by kernel_rfl) (fun _ _ _ h => h) (Or.inl ⟨by rfl, ?_⟩) ?_
          · intro w0
            go_simp
          refine wpAny_take (i := 29) (v := .pointer (some ⟨by', 0, none⟩)) rfl (by kernel_rfl) (by kernel_rfl) (by kernel_rfl) (fun _ _ _ h => h) (Or.inl ⟨by rfl, ?_⟩) ?_
          · intro w0
            go_simp
          refine wpAny_take (i := 30) (v := .pointer (some ⟨by', 0, none⟩)) rfl (by kernel_rfl) (by kernel_rfl) (by kernel_rfl) (fun _ _ _ h => h) (Or.inl ⟨by rfl, ?_⟩) ?_
          · intro w0
            go_simp
          refine wpAny_take (i := 31) (v := .pointer (some ⟨by', 1, none⟩)) rfl (by kernel_rfl) (by kernel_rfl) (by kernel_rfl) (fun _ _ _ h => h) (Or.inl ⟨by rfl, ?_⟩) ?_
          · intro w0
            go_simp
          refine wpAny_ready (rs := [28, 32]) (by kernel_rfl) (by simp) ?_
          refine AllReady.cons rfl (fun K hK => ?_) (AllReady.cons rfl (fun K hK => ?_) AllReady.nil)
          case' refine_1 =>
            go_simp
            refine hD.mono ?_
            rintro e w9 ⟨B9, cB, rfl, hRB, hb9⟩
            have d19 : w9.cell? ⟨by', 1, none⟩ = some (.slice A9 r'.d.length c9) := (hb9.cell (p := ⟨by', 1, none⟩) hyl).trans d1
            refine hK _ _ ?_
            clear hK K
            refine wpAny_ready (rs := [32]) (by kernel_rfl) (by simp) ?_
            refine AllReady.cons rfl (fun K hK => ?_) AllReady.nil
            go_simp
            refine hK _ _ ?_
            clear hK K
          case' refine_2 =>
            go_simp
            refine hK _ _ ?_
            clear hK K
            refine wpAny_ready (rs := [28]) (by kernel_rfl) (by simp) ?_
            refine AllReady.cons rfl (fun K hK => ?_) AllReady.nil
            go_simp
            refine hD.mono ?_
            rintro e w9 ⟨B9, cB, rfl, hRB, hb9⟩
            refine hK _ _ ?_
            clear hK K
          all_goals
            refine wpAny_ready (rs := [33]) (by kernel_rfl) (by simp) ?_
            refine AllReady.cons rfl (fun K hK => ?_) AllReady.nil
            go_simp
            refine (same_any B9 A9 cB c9 r'.d w9 hRB (HRU.out.below hb9) (by have := HFEW.out; omega)).mono ?_
            rintro e w10 ⟨rfl, hb10⟩
            have HB10 := Lib.hid ((HB8.out.trans (hb9.mono HB8.out.size)).trans (hb10.mono (HB8.out.trans (hb9.mono HB8.out.size)).size))
            have HR10 := Lib.hid ((HR8.out.below hb9).below hb10)
            clear hb9 hb10 hRB
            refine hK _ _ ?_
            clear hK K
            refine wpAny_ready (rs := [34]) (by kernel_rfl) (by simp) ?_
            refine AllReady.cons rfl (fun K hK => ?_) AllReady.nil
            go_simp
            refine hK _ _ ?_
            clear hK K
            refine wpAny_ready (rs := [35]) (by kernel_rfl) (by simp) ?_
            refine AllReady.cons rfl (fun K hK => ?_) AllReady.nil
            go_simp
            refine hK _ _ ?_
            clear hK K
            refine wpAny_done (by kernel_rfl) ?_ _
            go_wp2_with (fail)
            go_roundw
            case rel => exact ⟨k + 1, cs', r', fc', fa', ft', fl', by omega, by have := HK1.out; omega, by go_num, HF', HB10, Lib.hid ⟨_, _, _, _, HR10.out⟩⟩
            case measure => simp [intOf]; omega
end Go.Proofs.Ytknoedlelmflhaa
