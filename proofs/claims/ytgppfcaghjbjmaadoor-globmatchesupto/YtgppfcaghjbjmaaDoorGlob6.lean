/- glob.parts: the closure, by its pairs. -/
import Derived.Test.YtgppfcaghjbjmaaDoorGlob5
namespace Go.Proofs.YtgppfcaghjbjmaaDoor
open Go.RowKit Go.Maps Plain

set_option maxHeartbeats 4000000 in
set_option maxRecDepth 100000 in
theorem down_any (w0 : World) (p n : List (List UInt8)) (Ap An : Option Addr) (cp cn bp bn bs bd bm : Nat) (hT : Tabs w0) (hbm : w0.heap.size ≤ bm)
    (hp : Reads w0 1 Ap p.length (strs p)) (hn : Reads w0 1 An n.length (strs n)) (hpl : p.length ≤ 65536) (hnl : n.length ≤ 65536)
    (hpo : ∀ x ∈ p, Lib.validD x = true ∧ wfP x = true ∧ x.length ≤ 65536) (hno : ∀ x ∈ n, Lib.validD x = true ∧ x.length ≤ 65536) :
    ∀ (N i j : Nat) (W : World), (p.length - i) + (n.length - j) ≤ N → i ≤ p.length → j ≤ n.length → DS w0 p n Ap An cp cn bp bn bs bd bm W →
      Calls Tryd.prog 41 #[.int .i64 i, .int .i64 j, .pointer (some ⟨bp, 0, none⟩), .pointer (some ⟨bn, 0, none⟩), .pointer (some ⟨bs, 0, none⟩), .pointer (some ⟨bd, 0, none⟩)] W
        fun e W' => e = .returned (.bool (partsP (p.drop i) (n.drop j))) ∧ DS w0 p n Ap An cp cn bp bn bs bd bm W' := by
  intro N
  induction N with
  | zero =>
    intro i j W hN hi hj hS
    obtain rfl : i = p.length := by omega
    obtain rfl : j = n.length := by omega
    have h1 := hS.hp
    have h2 := hS.hn
    have HS := Lib.hid hS
    clear hS hp hn hT hpo hno
    rw [List.drop_length, List.drop_length]
    go_enter Tryd.func41, Tryd.ntmps41
    go_wp2_with (fail)
    go_ret
    exact ⟨by rw [partsP_nil]; rfl, HS.out⟩
  | succ N ih =>
    intro i j W hN hi hj hS
    have h1 := hS.hp
    have h2 := hS.hn
    have h3 := hS.hs
    have h4 := hS.hd
    have HS := Lib.hid hS
    have i0 : (0 : Int) ≤ i := by omega
    have j0 : (0 : Int) ≤ j := by omega
    by_cases hip : i = p.length
    · subst hip
      have hje : ((j : Int) == (n.length : Int)) = (n.drop j).isEmpty := by
        rw [Bool.eq_iff_iff, beq_iff_eq, List.isEmpty_iff, List.drop_eq_nil_iff]; omega
      have HR := Lib.hid (show partsP (p.drop p.length) (n.drop j) = (n.drop j).isEmpty by rw [List.drop_length, partsP_nil])
      generalize (n.drop j).isEmpty = b at *
      have hii : ((p.length : Int) == (p.length : Int)) = true := by simp
      clear hS hp hn hT hpo hno
      go_enter Tryd.func41, Tryd.ntmps41
      go_wp2_with (fail)
      go_ret
      exact ⟨by rw [HR.out]; rfl, HS.out⟩
    have hil : i < p.length := by omega
    have hii : ((i : Int) == (p.length : Int)) = false := by rw [beq_eq_false_iff_ne]; omega
    obtain ⟨b, hlk, hbf⟩ := hS.get (i := i) (j := j) (by omega) (by omega)
    cases b with
    | true =>
      have HR := Lib.hid (hbf rfl)
      clear hS hp hn hT hpo hno ih hbf
      go_enter Tryd.func41, Tryd.ntmps41
      go_wp2_with (fail)
      go_ret
      exact ⟨by rw [HR.out]; rfl, HS.out⟩
    | false =>
      have HPUT := Lib.hid (fun (X : World) (ok : Bool) (hX : DS w0 p n Ap An cp cn bp bn bs bd bm X) (hok : partsP (p.drop i) (n.drop j) = ok) => hX.put hbm (i := i) (j := j) (by omega) (by omega) hok)
      have HCELL := Lib.hid (fun (X : World) (hX : DS w0 p n Ap An cp cn bp bn bs bd bm X) => (And.intro hX.hp (And.intro hX.hn (And.intro hX.hs hX.hd))))
      obtain ⟨ad, rfl, cS⟩ := hp.str_at hil
      have HPC := Lib.hid (fun (X : World) (hX : DS w0 p n (some ad) An cp cn bp bn bs bd bm X) => (hX.below.cell (World.block_lt_of_cell? _ _ cS)).trans cS)
      have cW := HPC.out W hS
      have e1 : IntKind.i64.wrap ((i : Int) + 1) = (i : Int) + 1 := IntWalk.i64_in _ (by omega)
      have e2 : IntKind.i64.wrap ((j : Int) + 1) = (j : Int) + 1 := IntWalk.i64_in _ (by omega)
      have i1 : (i : Int) < (p.length : Int) := by omega
      have IH := Lib.hid ih
      by_cases hst : p[i] = [42, 42]
      · have hps := partsP_star_at (n := n) (j := j) hil hst
        rw [hst] at cW
        have hq : (([42, 42] : List UInt8) == [42, 42]) = true := rfl
        have HQ1 := Lib.hid (fun (X : World) (hX : DS w0 p n (some ad) An cp cn bp bn bs bd bm X) => ih (i + 1) j X (by omega) (by omega) hj hX)
        have HQ2 := Lib.hid (fun (hjn : j < n.length) (X : World) (hX : DS w0 p n (some ad) An cp cn bp bn bs bd bm X) => ih i (j + 1) X (by omega) hi (by omega) hX)
        clear hS hp hn hT hpo hno ih hbf cS
        generalize hr1 : partsP (p.drop (i + 1)) (n.drop j) = r1 at *
        generalize hr2 : partsP (p.drop i) (n.drop (j + 1)) = r2 at *
        have HPS := Lib.hid hps
        clear hps hr1 hr2 hst
        have hjd : decide ((j : Int) < (n.length : Int)) = decide (j < n.length) := by rw [decide_eq_decide]; omega
        go_enter Tryd.func41, Tryd.ntmps41
        go_wp2_with (fail)
        refine (HQ1.out _ HS.out).mono ?_
        rintro e w1 ⟨rfl, hS1⟩
        have HS1 := Lib.hid hS1
        obtain ⟨k1, k2, k3, k4⟩ := HCELL.out w1 hS1
        clear hS1 h1 h2 h3 h4 hlk cW
        cases r1 with
        | true =>
          have hr := HPS.out
          rw [Bool.true_or] at hr
          obtain ⟨w2, hup, hS2⟩ := HPUT.out w1 true HS1.out hr
          rw [Bool.not_true] at hup
          have HR := Lib.hid hr
          have HS2 := Lib.hid hS2
          clear hS2 hr
          go_wp2_with (fail)
          go_ret
          exact ⟨by rw [HR.out]; rfl, HS2.out⟩
        | false =>
          by_cases hjn : j < n.length
          · rw [decide_eq_true hjn] at hjd
            have hr := HPS.out
            rw [Bool.false_or, decide_eq_true hjn, Bool.true_and] at hr
            have HR := Lib.hid hr
            clear hr
            go_wp2_with (fail)
            refine (HQ2.out hjn _ HS1.out).mono ?_
            rintro e w2 ⟨rfl, hS2⟩
            have HS2 := Lib.hid hS2
            obtain ⟨m1, m2, m3, m4⟩ := HCELL.out w2 hS2
            obtain ⟨w3, hup, hS3⟩ := HPUT.out w2 r2 hS2 HR.out
            have HS3 := Lib.hid hS3
            clear hS2 hS3 k1 k2 k3 k4
            go_wp2_with (fail)
            go_ret
            exact ⟨by rw [HR.out]; rfl, HS3.out⟩
          · rw [decide_eq_false hjn] at hjd
            have hr := HPS.out
            rw [Bool.false_or, decide_eq_false hjn, Bool.false_and] at hr
            obtain ⟨w2, hup, hS2⟩ := HPUT.out w1 false HS1.out hr
            rw [Bool.not_false] at hup
            have HR := Lib.hid hr
            have HS2 := Lib.hid hS2
            clear hS2 hr
            go_wp2_with (fail)
            go_ret
            exact ⟨by rw [HR.out]; rfl, HS2.out⟩
      · have hps := partsP_one_at (n := n) (j := j) hil hst
        have hq : (p[i] == [42, 42]) = false := by rw [beq_eq_false_iff_ne]; exact hst
        obtain ⟨v1, v2, v3⟩ := hpo p[i] (List.getElem_mem hil)
        by_cases hjn : j < n.length
        · have hjd : decide ((j : Int) < (n.length : Int)) = true := by rw [decide_eq_true_eq]; omega
          rw [dif_pos hjn] at hps
          obtain ⟨ad2, rfl, cS2⟩ := hn.str_at hjn
          have HNC := Lib.hid (fun (X : World) (hX : DS w0 p n (some ad) (some ad2) cp cn bp bn bs bd bm X) => (hX.below.cell (World.block_lt_of_cell? _ _ cS2)).trans cS2)
          obtain ⟨u1, u2⟩ := hno n[j] (List.getElem_mem hjn)
          have j1 : (j : Int) < (n.length : Int) := by omega
          have HPT := Lib.hid (fun (X : World) (hX : DS w0 p n (some ad) (some ad2) cp cn bp bn bs bd bm X) => part_any p[i] n[j] X (Utf8Tabs_below hT hX.below) v1 v2 u1 v3 u2)
          have HQ2 := Lib.hid (fun (X : World) (hX : DS w0 p n (some ad) (some ad2) cp cn bp bn bs bd bm X) => ih (i + 1) (j + 1) X (by omega) (by omega) (by omega) hX)
          clear hS hp hn hT hpo hno ih hbf cS cS2 v1 v2 v3 u1 u2
          generalize hx : p[i] = x at *
          generalize hy : n[j] = y at *
          generalize partP x y = r1 at *
          generalize partsP (p.drop (i + 1)) (n.drop (j + 1)) = r2 at *
          have HPS := Lib.hid hps
          clear hps hst hx hy
          go_enter Tryd.func41, Tryd.ntmps41
          go_wp2_with (fail)
          cases r1 with
          | false =>
            have HFA : ∀ q : Prop, (∀ X, DS w0 p n (some ad) (some ad2) cp cn bp bn bs bd bm X → q) ↔ q := fun q => ⟨fun h => h _ HS.out, fun h _ _ => h⟩
            refine wp_region_in (C := DS w0 p n (some ad) (some ad2) cp cn bp bn bs bd bm) (by kernel_rfl) (by kernel_rfl) HS.out.drew ?_
            repeat (first | go_big_quiet_step ((intro hW; go_at_call 23; exact (HPT.out _ hW).mono fun _ _ ⟨he, hb⟩ => ⟨he, hW.below' hb⟩)) | (go_big_quiet_want; (first | (refine quiet_load_in _ _ rfl ⟨bn, 0, none⟩ rfl _ _ (fun X hX => hX.hn) Tryd.underlying41 rfl ?_) | (refine quiet_load_in _ _ rfl ⟨bp, 0, none⟩ rfl _ _ (fun X hX => hX.hp) Tryd.underlying41 rfl ?_) | (refine quiet_load_in _ _ rfl (ad.add i) rfl _ _ HPC.out Tryd.underlying9 rfl ?_) | (refine quiet_load_in _ _ rfl (ad2.add j) rfl _ _ HNC.out Tryd.underlying9 rfl ?_)); simp only [Act.put, List.setIfInBounds_toArray, List.set_cons_succ, List.set_cons_zero]; go_big_quiet_on))
            refine wpQuiet_nil ?_
            intro X hX
            clear HFA
            obtain ⟨m1, m2, m3, m4⟩ := HCELL.out X hX
            have hr := HPS.out
            rw [Bool.false_and] at hr
            obtain ⟨w2, hup, hS2⟩ := HPUT.out X false hX hr
            rw [Bool.not_false] at hup
            have HR := Lib.hid hr
            have HS2 := Lib.hid hS2
            clear hS2 hr hX h1 h2 h3 h4 hlk
            go_wp2_with (fail)
            go_ret
            exact ⟨by rw [HR.out]; rfl, HS2.out⟩
          | true =>
            have HFA : ∀ q : Prop, (∀ X, DS w0 p n (some ad) (some ad2) cp cn bp bn bs bd bm X → q) ↔ q := fun q => ⟨fun h => h _ HS.out, fun h _ _ => h⟩
            refine wp_region_in (C := DS w0 p n (some ad) (some ad2) cp cn bp bn bs bd bm) (by kernel_rfl) (by kernel_rfl) HS.out.drew ?_
            repeat (first | go_big_quiet_step ((first | (intro hW; go_at_call 23; exact (HPT.out _ hW).mono fun _ _ ⟨he, hb⟩ => ⟨he, hW.below' hb⟩) | (intro hW; go_at_call 41; exact HQ2.out _ hW))) | (go_big_quiet_want; (first | (refine quiet_load_in _ _ rfl ⟨bn, 0, none⟩ rfl _ _ (fun X hX => hX.hn) Tryd.underlying41 rfl ?_) | (refine quiet_load_in _ _ rfl ⟨bp, 0, none⟩ rfl _ _ (fun X hX => hX.hp) Tryd.underlying41 rfl ?_) | (refine quiet_load_in _ _ rfl (ad.add i) rfl _ _ HPC.out Tryd.underlying9 rfl ?_) | (refine quiet_load_in _ _ rfl (ad2.add j) rfl _ _ HNC.out Tryd.underlying9 rfl ?_) | (refine quiet_load_in _ _ rfl ⟨bd, 0, none⟩ rfl _ _ (fun X hX => hX.hd) Tryd.underlying54 rfl ?_)); simp only [Act.put, List.setIfInBounds_toArray, List.set_cons_succ, List.set_cons_zero]; go_big_quiet_on))
            refine wpQuiet_nil ?_
            intro X hX
            clear HFA
            obtain ⟨m1, m2, m3, m4⟩ := HCELL.out X hX
            have hr := HPS.out
            rw [Bool.true_and] at hr
            obtain ⟨w2, hup, hS2⟩ := HPUT.out X r2 hX hr
            have HR := Lib.hid hr
            have HS2 := Lib.hid hS2
            clear hS2 hr hX h1 h2 h3 h4 hlk
            go_wp2_with (fail)
            go_ret
            exact ⟨by rw [HR.out]; rfl, HS2.out⟩
        · have hjd : decide ((j : Int) < (n.length : Int)) = false := by rw [decide_eq_false_iff_not]; omega
          rw [dif_neg hjn] at hps
          clear hp hn hT hpo hno ih hbf cS v1 v2 v3
          generalize hx : p[i] = x at *
          have HPS := Lib.hid hps
          clear hps hst hx
          go_enter Tryd.func41, Tryd.ntmps41
          go_wp2_with (fail)
          have HFA : ∀ q : Prop, (∀ X, DS w0 p n (some ad) An cp cn bp bn bs bd bm X → q) ↔ q := fun q => ⟨fun h => h _ HS.out, fun h _ _ => h⟩
          refine wp_region_in (C := DS w0 p n (some ad) An cp cn bp bn bs bd bm) (by kernel_rfl) (by kernel_rfl) HS.out.drew ?_
          repeat (first | go_big_quiet_step ((fail)) | (go_big_quiet_want; (first | (refine quiet_load_in _ _ rfl ⟨bn, 0, none⟩ rfl _ _ (fun X hX => hX.hn) Tryd.underlying41 rfl ?_)); simp only [Act.put, List.setIfInBounds_toArray, List.set_cons_succ, List.set_cons_zero]; go_big_quiet_on))
          refine wpQuiet_nil ?_
          intro X hX
          clear HFA
          obtain ⟨m1, m2, m3, m4⟩ := HCELL.out X hX
          have hr := HPS.out
          obtain ⟨w2, hup, hS2⟩ := HPUT.out X false hX hr
          rw [Bool.not_false] at hup
          have HR := Lib.hid hr
          have HS2 := Lib.hid hS2
          clear hS2 hr hX h1 h2 h3 h4 hlk
          go_wp2_with (fail)
          go_ret
          exact ⟨by rw [HR.out]; rfl, HS2.out⟩
end Go.Proofs.YtgppfcaghjbjmaaDoor
