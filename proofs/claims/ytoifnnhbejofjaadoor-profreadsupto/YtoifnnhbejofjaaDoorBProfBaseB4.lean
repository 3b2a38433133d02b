/- Texts joined: ProfR4b, ProfR4c, ProfR4d. -/
import Derived.Test.YtoifnnhbejofjaaDoorBProfBaseB3
set_option linter.unusedSimpArgs false
set_option linter.unusedVariables false

/- The document's lines of a profile (sides, flags). -/
section
set_option linter.unusedVariables false
namespace Go.Proofs.YtoifnnhbejofjaaDoor
open Go.RowKit Plain
section
variable {A0 A1 A2 : Option Addr} {c0 c1 c2 : Nat} {p : PF} {w : World}
set_option maxHeartbeats 8000000 in
set_option maxRecDepth 100000 in
theorem rsays_pre (a : List UInt8) (h : PfAtT w A0 c0 A1 c1 A2 c2 p) (hsh : Short p) (ha : a.length ≤ 4294967280) :
    Calls Tryd.prog 38 #[pfV A0 c0 A1 c1 A2 c2 p, .string ⟨wPrefer.toArray⟩, .string ⟨a.toArray⟩] w (RSaysOut w (saysP p wPrefer a)) := by
  obtain ⟨r, hr⟩ : ∃ r, saysP p wPrefer a = r := ⟨_, rfl⟩
  rw [hr]
  obtain ⟨W0, hW0⟩ : ∃ W0, (w.alloc (.cells #[.slice A0 p.ign.length c0, .slice A1 p.bak.length c1, .slice A2 p.mrg.length c2, .int .i64 p.pre, .int .i64 p.frc, .bool p.bat, .bool p.fst] 27)).alloc (.cells #[.slice none 0 0, .slice none 0 0, .slice none 0 0, .int .i64 0, .int .i64 0, .bool false, .bool false] 27) = W0 := ⟨_, rfl⟩
  have HX0 := Lib.hid (show Bx w (.slice A0 p.ign.length c0) (.slice A1 p.bak.length c1) (.slice A2 p.mrg.length c2) p W0 by rw [← hW0]; exact box_start p _ _ _ w)
  have HW0 := Lib.hid hW0
  have HP := Lib.hid h
  have HS := Lib.hid hsh
  clear hW0
  unfold pfV
  have HSD := Lib.hid (fun W => rside_any a W)
  have HSAY : Hid (r = if sideP a ≠ 0 then some { p with pre := sideP a } else none) := Lib.hid (by rw [← hr]; unfold saysP; rw [if_neg (by decide), if_neg (by decide), if_neg (by decide), if_pos rfl])
  generalize sideP a = sd at *
  clear hr h hsh ha
  unfold wPrefer
  go_enter Tryd.func38, Tryd.ntmps38
  go_upto_region 1 with (fail)
  rw [HW0.out]
  go_wp2_with (fail)
  refine (HSD.out _).mono ?_
  rintro e w1 ⟨rfl, hw1⟩
  have HX1 := Lib.hid (HX0.out.on hw1)
  have prec := HX1.out.cells.2.2.2.1
  have zz := HX1.out.soft 3
  obtain ⟨Wd, hWd⟩ : ∃ Wd, w1.setCell ⟨w.heap.size, 3, none⟩ (.int .i64 sd) = Wd := ⟨_, rfl⟩
  have HWD := Lib.hid hWd
  have HBX : Hid (Bx w (.slice A0 p.ign.length c0) (.slice A1 p.bak.length c1) (.slice A2 p.mrg.length c2) { p with pre := sd } Wd) := Lib.hid (hWd ▸ HX1.out.put rfl)
  clear hw1 hWd HX1
  go_upto_region 28 with (fail)
  rw [HWD.out]
  clear prec zz HWD
  have HPV : Hid (pfV A0 c0 A1 c1 A2 c2 { p with pre := sd } = .agg #[.slice A0 p.ign.length c0, .slice A1 p.bak.length c1, .slice A2 p.mrg.length c2, .int .i64 sd, .int .i64 p.frc, .bool p.bat, .bool p.fst]) := Lib.hid rfl
  by_cases h0 : sd = 0
  · have HSAY3 := Lib.hid (HSAY.out.trans (if_neg (fun h => h h0)))
    have g0 : (sd != 0) = false := by simpa using h0
    clear h0 HSAY
    obtain ⟨p0, p1, p2, p3, p4, p5, p6⟩ := HBX.out.cells
    obtain ⟨q0, q1, q2, q3, q4, q5, q6⟩ := HBX.out.rcells
    have z1 := HBX.out.rsoft
    obtain ⟨WZ, hWZ⟩ : ∃ WZ, fillR w Wd (.slice A0 p.ign.length c0) (.slice A1 p.bak.length c1) (.slice A2 p.mrg.length c2) { p with pre := sd } = WZ := ⟨_, rfl⟩
    have HF := Lib.hid (hWZ ▸ HBX.out.fill)
    have HPZ : Hid (PfAtT WZ A0 c0 A1 c1 A2 c2 { p with pre := sd }) := Lib.hid (by
      have hq := HP.out.below (hWZ ▸ HBX.out.fill.2.1)
      exact ⟨⟨hq.ign, hq.bak, hq.mrg, hq.cap, hq.len⟩, hq.tag⟩)
    have HWZ := Lib.hid (show _ = WZ from hWZ)
    clear hWZ
    unfold fillR at HWZ
    go_wp2_with (fail)
    go_region
    go_wp2_with (fail)
    rw [HWZ.out]
    refine bodyPost_ret (results_rowP_tmp Tryd.results38 _ WZ.drew (w.heap.size + 1) 27 _ (0, 0) _ rfl HF.out.1 Tryd.underlying27 rfl size_pf) rfl ?_
    exact ⟨_, _, _, _, _, _, { p with pre := sd }, by rw [HSAY3.out, HPV.out]; rfl, HPZ.out.below (still_drew _), HF.out.2.1.trans ((still_drew _).mono HF.out.2.1.size), fun q hq => by rw [HSAY3.out] at hq; cases hq⟩
  · have HSAY3 := Lib.hid (HSAY.out.trans (if_pos h0))
    have g0 : (sd != 0) = true := by simpa using h0
    clear h0 HSAY
    obtain ⟨p0, p1, p2, p3, p4, p5, p6⟩ := HBX.out.cells
    obtain ⟨q0, q1, q2, q3, q4, q5, q6⟩ := HBX.out.rcells
    have z1 := HBX.out.rsoft
    obtain ⟨WZ, hWZ⟩ : ∃ WZ, fillR w Wd (.slice A0 p.ign.length c0) (.slice A1 p.bak.length c1) (.slice A2 p.mrg.length c2) { p with pre := sd } = WZ := ⟨_, rfl⟩
    have HF := Lib.hid (hWZ ▸ HBX.out.fill)
    have HPZ : Hid (PfAtT WZ A0 c0 A1 c1 A2 c2 { p with pre := sd }) := Lib.hid (by
      have hq := HP.out.below (hWZ ▸ HBX.out.fill.2.1)
      exact ⟨⟨hq.ign, hq.bak, hq.mrg, hq.cap, hq.len⟩, hq.tag⟩)
    have HWZ := Lib.hid (show _ = WZ from hWZ)
    clear hWZ
    unfold fillR at HWZ
    go_wp2_with (fail)
    go_region
    go_wp2_with (fail)
    rw [HWZ.out]
    refine bodyPost_ret (results_rowP_tmp Tryd.results38 _ WZ.drew (w.heap.size + 1) 27 _ (0, 0) _ rfl HF.out.1 Tryd.underlying27 rfl size_pf) rfl ?_
    exact ⟨_, _, _, _, _, _, { p with pre := sd }, by rw [HSAY3.out, HPV.out]; rfl, HPZ.out.below (still_drew _), HF.out.2.1.trans ((still_drew _).mono HF.out.2.1.size), fun q hq => by rw [HSAY3.out] at hq; injection hq⟩
set_option maxHeartbeats 8000000 in
set_option maxRecDepth 100000 in
theorem rsays_frc (a : List UInt8) (h : PfAtT w A0 c0 A1 c1 A2 c2 p) (hsh : Short p) (ha : a.length ≤ 4294967280) :
    Calls Tryd.prog 38 #[pfV A0 c0 A1 c1 A2 c2 p, .string ⟨wForce.toArray⟩, .string ⟨a.toArray⟩] w (RSaysOut w (saysP p wForce a)) := by
  obtain ⟨r, hr⟩ : ∃ r, saysP p wForce a = r := ⟨_, rfl⟩
  rw [hr]
  obtain ⟨W0, hW0⟩ : ∃ W0, (w.alloc (.cells #[.slice A0 p.ign.length c0, .slice A1 p.bak.length c1, .slice A2 p.mrg.length c2, .int .i64 p.pre, .int .i64 p.frc, .bool p.bat, .bool p.fst] 27)).alloc (.cells #[.slice none 0 0, .slice none 0 0, .slice none 0 0, .int .i64 0, .int .i64 0, .bool false, .bool false] 27) = W0 := ⟨_, rfl⟩
  have HX0 := Lib.hid (show Bx w (.slice A0 p.ign.length c0) (.slice A1 p.bak.length c1) (.slice A2 p.mrg.length c2) p W0 by rw [← hW0]; exact box_start p _ _ _ w)
  have HW0 := Lib.hid hW0
  have HP := Lib.hid h
  have HS := Lib.hid hsh
  clear hW0
  unfold pfV
  have HSD := Lib.hid (fun W => rside_any a W)
  have HSAY : Hid (r = if sideP a ≠ 0 then some { p with frc := sideP a } else none) := Lib.hid (by rw [← hr]; unfold saysP; rw [if_neg (by decide), if_neg (by decide), if_neg (by decide), if_neg (by decide), if_pos rfl])
  generalize sideP a = sd at *
  clear hr h hsh ha
  unfold wForce
  go_enter Tryd.func38, Tryd.ntmps38
  go_upto_region 1 with (fail)
  rw [HW0.out]
  go_wp2_with (fail)
  refine (HSD.out _).mono ?_
  rintro e w1 ⟨rfl, hw1⟩
  have HX1 := Lib.hid (HX0.out.on hw1)
  have frcc := HX1.out.cells.2.2.2.2.1
  have zz := HX1.out.soft 4
  obtain ⟨Wd, hWd⟩ : ∃ Wd, w1.setCell ⟨w.heap.size, 4, none⟩ (.int .i64 sd) = Wd := ⟨_, rfl⟩
  have HWD := Lib.hid hWd
  have HBX : Hid (Bx w (.slice A0 p.ign.length c0) (.slice A1 p.bak.length c1) (.slice A2 p.mrg.length c2) { p with frc := sd } Wd) := Lib.hid (hWd ▸ HX1.out.put rfl)
  clear hw1 hWd HX1
  go_upto_region 31 with (fail)
  rw [HWD.out]
  clear frcc zz HWD
  have HPV : Hid (pfV A0 c0 A1 c1 A2 c2 { p with frc := sd } = .agg #[.slice A0 p.ign.length c0, .slice A1 p.bak.length c1, .slice A2 p.mrg.length c2, .int .i64 p.pre, .int .i64 sd, .bool p.bat, .bool p.fst]) := Lib.hid rfl
  by_cases h0 : sd = 0
  · have HSAY3 := Lib.hid (HSAY.out.trans (if_neg (fun h => h h0)))
    have g0 : (sd != 0) = false := by simpa using h0
    clear h0 HSAY
    obtain ⟨p0, p1, p2, p3, p4, p5, p6⟩ := HBX.out.cells
    obtain ⟨q0, q1, q2, q3, q4, q5, q6⟩ := HBX.out.rcells
    have z1 := HBX.out.rsoft
    obtain ⟨WZ, hWZ⟩ : ∃ WZ, fillR w Wd (.slice A0 p.ign.length c0) (.slice A1 p.bak.length c1) (.slice A2 p.mrg.length c2) { p with frc := sd } = WZ := ⟨_, rfl⟩
    have HF := Lib.hid (hWZ ▸ HBX.out.fill)
    have HPZ : Hid (PfAtT WZ A0 c0 A1 c1 A2 c2 { p with frc := sd }) := Lib.hid (by
      have hq := HP.out.below (hWZ ▸ HBX.out.fill.2.1)
      exact ⟨⟨hq.ign, hq.bak, hq.mrg, hq.cap, hq.len⟩, hq.tag⟩)
    have HWZ := Lib.hid (show _ = WZ from hWZ)
    clear hWZ
    unfold fillR at HWZ
    go_wp2_with (fail)
    go_region
    go_wp2_with (fail)
    rw [HWZ.out]
    refine bodyPost_ret (results_rowP_tmp Tryd.results38 _ WZ.drew (w.heap.size + 1) 27 _ (0, 0) _ rfl HF.out.1 Tryd.underlying27 rfl size_pf) rfl ?_
    exact ⟨_, _, _, _, _, _, { p with frc := sd }, by rw [HSAY3.out, HPV.out]; rfl, HPZ.out.below (still_drew _), HF.out.2.1.trans ((still_drew _).mono HF.out.2.1.size), fun q hq => by rw [HSAY3.out] at hq; cases hq⟩
  · have HSAY3 := Lib.hid (HSAY.out.trans (if_pos h0))
    have g0 : (sd != 0) = true := by simpa using h0
    clear h0 HSAY
    obtain ⟨p0, p1, p2, p3, p4, p5, p6⟩ := HBX.out.cells
    obtain ⟨q0, q1, q2, q3, q4, q5, q6⟩ := HBX.out.rcells
    have z1 := HBX.out.rsoft
    obtain ⟨WZ, hWZ⟩ : ∃ WZ, fillR w Wd (.slice A0 p.ign.length c0) (.slice A1 p.bak.length c1) (.slice A2 p.mrg.length c2) { p with frc := sd } = WZ := ⟨_, rfl⟩
    have HF := Lib.hid (hWZ ▸ HBX.out.fill)
    have HPZ : Hid (PfAtT WZ A0 c0 A1 c1 A2 c2 { p with frc := sd }) := Lib.hid (by
      have hq := HP.out.below (hWZ ▸ HBX.out.fill.2.1)
      exact ⟨⟨hq.ign, hq.bak, hq.mrg, hq.cap, hq.len⟩, hq.tag⟩)
    have HWZ := Lib.hid (show _ = WZ from hWZ)
    clear hWZ
    unfold fillR at HWZ
    go_wp2_with (fail)
    go_region
    go_wp2_with (fail)
    rw [HWZ.out]
    refine bodyPost_ret (results_rowP_tmp Tryd.results38 _ WZ.drew (w.heap.size + 1) 27 _ (0, 0) _ rfl HF.out.1 Tryd.underlying27 rfl size_pf) rfl ?_
    exact ⟨_, _, _, _, _, _, { p with frc := sd }, by rw [HSAY3.out, HPV.out]; rfl, HPZ.out.below (still_drew _), HF.out.2.1.trans ((still_drew _).mono HF.out.2.1.size), fun q hq => by rw [HSAY3.out] at hq; injection hq⟩
set_option maxHeartbeats 8000000 in
set_option maxRecDepth 100000 in
theorem rsays_bat (a : List UInt8) (h : PfAtT w A0 c0 A1 c1 A2 c2 p) (hsh : Short p) (ha : a.length ≤ 4294967280) :
    Calls Tryd.prog 38 #[pfV A0 c0 A1 c1 A2 c2 p, .string ⟨wBatch.toArray⟩, .string ⟨a.toArray⟩] w (RSaysOut w (saysP p wBatch a)) := by
  obtain ⟨r, hr⟩ : ∃ r, saysP p wBatch a = r := ⟨_, rfl⟩
  rw [hr]
  obtain ⟨W0, hW0⟩ : ∃ W0, (w.alloc (.cells #[.slice A0 p.ign.length c0, .slice A1 p.bak.length c1, .slice A2 p.mrg.length c2, .int .i64 p.pre, .int .i64 p.frc, .bool p.bat, .bool p.fst] 27)).alloc (.cells #[.slice none 0 0, .slice none 0 0, .slice none 0 0, .int .i64 0, .int .i64 0, .bool false, .bool false] 27) = W0 := ⟨_, rfl⟩
  have HX0 := Lib.hid (show Bx w (.slice A0 p.ign.length c0) (.slice A1 p.bak.length c1) (.slice A2 p.mrg.length c2) p W0 by rw [← hW0]; exact box_start p _ _ _ w)
  have HW0 := Lib.hid hW0
  have HP := Lib.hid h
  have HS := Lib.hid hsh
  clear hW0
  unfold pfV
  have HSAY : Hid (r = if a = [] then some { p with bat := true } else none) := Lib.hid (by rw [← hr]; unfold saysP; rw [if_neg (by decide), if_neg (by decide), if_neg (by decide), if_neg (by decide), if_neg (by decide), if_pos rfl])
  clear hr h hsh ha
  obtain ⟨ae, hae⟩ : ∃ b, a.isEmpty = b := ⟨_, rfl⟩
  have HSAY2 : Hid (r = if ae = true then some { p with bat := true } else none) := Lib.hid (by rw [HSAY.out, ← hae]; cases a <;> rfl)
  clear HSAY
  unfold wBatch
  have batc := HX0.out.cells.2.2.2.2.2.1
  have zz := HX0.out.soft 5
  obtain ⟨Wd, hWd⟩ : ∃ Wd, W0.setCell ⟨w.heap.size, 5, none⟩ (.bool true) = Wd := ⟨_, rfl⟩
  have HWD := Lib.hid hWd
  have HBX : Hid (Bx w (.slice A0 p.ign.length c0) (.slice A1 p.bak.length c1) (.slice A2 p.mrg.length c2) { p with bat := true } Wd) := Lib.hid (hWd ▸ HX0.out.put rfl)
  have HPV : Hid (pfV A0 c0 A1 c1 A2 c2 { p with bat := true } = .agg #[.slice A0 p.ign.length c0, .slice A1 p.bak.length c1, .slice A2 p.mrg.length c2, .int .i64 p.pre, .int .i64 p.frc, .bool true, .bool p.fst]) := Lib.hid rfl
  clear hWd HX0
  cases ae with
  | false =>
    have HSAY3 := Lib.hid (HSAY2.out.trans (if_neg (by decide)))
    clear HSAY2
    go_enter Tryd.func38, Tryd.ntmps38
    go_upto_region 1 with (fail)
    rw [HW0.out]
    go_upto_region 34 with (fail)
    rw [HWD.out]
    clear batc zz HWD HW0
    obtain ⟨p0, p1, p2, p3, p4, p5, p6⟩ := HBX.out.cells
    obtain ⟨q0, q1, q2, q3, q4, q5, q6⟩ := HBX.out.rcells
    have z1 := HBX.out.rsoft
    obtain ⟨WZ, hWZ⟩ : ∃ WZ, fillR w Wd (.slice A0 p.ign.length c0) (.slice A1 p.bak.length c1) (.slice A2 p.mrg.length c2) { p with bat := true } = WZ := ⟨_, rfl⟩
    have HF := Lib.hid (hWZ ▸ HBX.out.fill)
    have HPZ : Hid (PfAtT WZ A0 c0 A1 c1 A2 c2 { p with bat := true }) := Lib.hid (by
      have hq := HP.out.below (hWZ ▸ HBX.out.fill.2.1)
      exact ⟨⟨hq.ign, hq.bak, hq.mrg, hq.cap, hq.len⟩, hq.tag⟩)
    have HWZ := Lib.hid (show _ = WZ from hWZ)
    clear hWZ
    unfold fillR at HWZ
    go_wp2_with (fail)
    rw [HWZ.out]
    refine bodyPost_ret (results_rowP_tmp Tryd.results38 _ WZ (w.heap.size + 1) 27 _ (0, 0) _ rfl HF.out.1 Tryd.underlying27 rfl size_pf) rfl ?_
    exact ⟨_, _, _, _, _, _, { p with bat := true }, by rw [HSAY3.out, HPV.out]; rfl, HPZ.out, HF.out.2.1, fun q hq => by rw [HSAY3.out] at hq; cases hq⟩
  | true =>
    have HSAY3 := Lib.hid (HSAY2.out.trans (if_pos rfl))
    clear HSAY2
    go_enter Tryd.func38, Tryd.ntmps38
    go_upto_region 1 with (fail)
    rw [HW0.out]
    go_upto_region 34 with (fail)
    rw [HWD.out]
    clear batc zz HWD HW0
    obtain ⟨p0, p1, p2, p3, p4, p5, p6⟩ := HBX.out.cells
    obtain ⟨q0, q1, q2, q3, q4, q5, q6⟩ := HBX.out.rcells
    have z1 := HBX.out.rsoft
    obtain ⟨WZ, hWZ⟩ : ∃ WZ, fillR w Wd (.slice A0 p.ign.length c0) (.slice A1 p.bak.length c1) (.slice A2 p.mrg.length c2) { p with bat := true } = WZ := ⟨_, rfl⟩
    have HF := Lib.hid (hWZ ▸ HBX.out.fill)
    have HPZ : Hid (PfAtT WZ A0 c0 A1 c1 A2 c2 { p with bat := true }) := Lib.hid (by
      have hq := HP.out.below (hWZ ▸ HBX.out.fill.2.1)
      exact ⟨⟨hq.ign, hq.bak, hq.mrg, hq.cap, hq.len⟩, hq.tag⟩)
    have HWZ := Lib.hid (show _ = WZ from hWZ)
    clear hWZ
    unfold fillR at HWZ
    go_wp2_with (fail)
    rw [HWZ.out]
    refine bodyPost_ret (results_rowP_tmp Tryd.results38 _ WZ (w.heap.size + 1) 27 _ (0, 0) _ rfl HF.out.1 Tryd.underlying27 rfl size_pf) rfl ?_
    exact ⟨_, _, _, _, _, _, { p with bat := true }, by rw [HSAY3.out, HPV.out]; rfl, HPZ.out, HF.out.2.1, fun q hq => by rw [HSAY3.out] at hq; injection hq⟩
set_option maxHeartbeats 8000000 in
set_option maxRecDepth 100000 in
theorem rsays_fst (a : List UInt8) (h : PfAtT w A0 c0 A1 c1 A2 c2 p) (hsh : Short p) (ha : a.length ≤ 4294967280) :
    Calls Tryd.prog 38 #[pfV A0 c0 A1 c1 A2 c2 p, .string ⟨wFast.toArray⟩, .string ⟨a.toArray⟩] w (RSaysOut w (saysP p wFast a)) := by
  obtain ⟨r, hr⟩ : ∃ r, saysP p wFast a = r := ⟨_, rfl⟩
  rw [hr]
  obtain ⟨W0, hW0⟩ : ∃ W0, (w.alloc (.cells #[.slice A0 p.ign.length c0, .slice A1 p.bak.length c1, .slice A2 p.mrg.length c2, .int .i64 p.pre, .int .i64 p.frc, .bool p.bat, .bool p.fst] 27)).alloc (.cells #[.slice none 0 0, .slice none 0 0, .slice none 0 0, .int .i64 0, .int .i64 0, .bool false, .bool false] 27) = W0 := ⟨_, rfl⟩
  have HX0 := Lib.hid (show Bx w (.slice A0 p.ign.length c0) (.slice A1 p.bak.length c1) (.slice A2 p.mrg.length c2) p W0 by rw [← hW0]; exact box_start p _ _ _ w)
  have HW0 := Lib.hid hW0
  have HP := Lib.hid h
  have HS := Lib.hid hsh
  clear hW0
  unfold pfV
  have HSAY : Hid (r = if a = [] then some { p with fst := true } else none) := Lib.hid (by rw [← hr]; unfold saysP; rw [if_neg (by decide), if_neg (by decide), if_neg (by decide), if_neg (by decide), if_neg (by decide), if_neg (by decide), if_pos rfl])
  clear hr h hsh ha
  obtain ⟨ae, hae⟩ : ∃ b, a.isEmpty = b := ⟨_, rfl⟩
  have HSAY2 : Hid (r = if ae = true then some { p with fst := true } else none) := Lib.hid (by rw [HSAY.out, ← hae]; cases a <;> rfl)
  clear HSAY
  unfold wFast
  have fstc := HX0.out.cells.2.2.2.2.2.2
  have zz := HX0.out.soft 6
  obtain ⟨Wd, hWd⟩ : ∃ Wd, W0.setCell ⟨w.heap.size, 6, none⟩ (.bool true) = Wd := ⟨_, rfl⟩
  have HWD := Lib.hid hWd
  have HBX : Hid (Bx w (.slice A0 p.ign.length c0) (.slice A1 p.bak.length c1) (.slice A2 p.mrg.length c2) { p with fst := true } Wd) := Lib.hid (hWd ▸ HX0.out.put rfl)
  have HPV : Hid (pfV A0 c0 A1 c1 A2 c2 { p with fst := true } = .agg #[.slice A0 p.ign.length c0, .slice A1 p.bak.length c1, .slice A2 p.mrg.length c2, .int .i64 p.pre, .int .i64 p.frc, .bool p.bat, .bool true]) := Lib.hid rfl
  clear hWd HX0
  cases ae with
  | false =>
    have HSAY3 := Lib.hid (HSAY2.out.trans (if_neg (by decide)))
    clear HSAY2
    go_enter Tryd.func38, Tryd.ntmps38
    go_upto_region 1 with (fail)
    rw [HW0.out]
    go_upto_region 37 with (fail)
    rw [HWD.out]
    clear fstc zz HWD HW0
    obtain ⟨p0, p1, p2, p3, p4, p5, p6⟩ := HBX.out.cells
    obtain ⟨q0, q1, q2, q3, q4, q5, q6⟩ := HBX.out.rcells
    have z1 := HBX.out.rsoft
    obtain ⟨WZ, hWZ⟩ : ∃ WZ, fillR w Wd (.slice A0 p.ign.length c0) (.slice A1 p.bak.length c1) (.slice A2 p.mrg.length c2) { p with fst := true } = WZ := ⟨_, rfl⟩
    have HF := Lib.hid (hWZ ▸ HBX.out.fill)
    have HPZ : Hid (PfAtT WZ A0 c0 A1 c1 A2 c2 { p with fst := true }) := Lib.hid (by
      have hq := HP.out.below (hWZ ▸ HBX.out.fill.2.1)
      exact ⟨⟨hq.ign, hq.bak, hq.mrg, hq.cap, hq.len⟩, hq.tag⟩)
    have HWZ := Lib.hid (show _ = WZ from hWZ)
    clear hWZ
    unfold fillR at HWZ
    go_wp2_with (fail)
    rw [HWZ.out]
    refine bodyPost_ret (results_rowP_tmp Tryd.results38 _ WZ (w.heap.size + 1) 27 _ (0, 0) _ rfl HF.out.1 Tryd.underlying27 rfl size_pf) rfl ?_
    exact ⟨_, _, _, _, _, _, { p with fst := true }, by rw [HSAY3.out, HPV.out]; rfl, HPZ.out, HF.out.2.1, fun q hq => by rw [HSAY3.out] at hq; cases hq⟩
  | true =>
    have HSAY3 := Lib.hid (HSAY2.out.trans (if_pos rfl))
    clear HSAY2
    go_enter Tryd.func38, Tryd.ntmps38
    go_upto_region 1 with (fail)
    rw [HW0.out]
    go_upto_region 37 with (fail)
    rw [HWD.out]
    clear fstc zz HWD HW0
    obtain ⟨p0, p1, p2, p3, p4, p5, p6⟩ := HBX.out.cells
    obtain ⟨q0, q1, q2, q3, q4, q5, q6⟩ := HBX.out.rcells
    have z1 := HBX.out.rsoft
    obtain ⟨WZ, hWZ⟩ : ∃ WZ, fillR w Wd (.slice A0 p.ign.length c0) (.slice A1 p.bak.length c1) (.slice A2 p.mrg.length c2) { p with fst := true } = WZ := ⟨_, rfl⟩
    have HF := Lib.hid (hWZ ▸ HBX.out.fill)
    have HPZ : Hid (PfAtT WZ A0 c0 A1 c1 A2 c2 { p with fst := true }) := Lib.hid (by
      have hq := HP.out.below (hWZ ▸ HBX.out.fill.2.1)
      exact ⟨⟨hq.ign, hq.bak, hq.mrg, hq.cap, hq.len⟩, hq.tag⟩)
    have HWZ := Lib.hid (show _ = WZ from hWZ)
    clear hWZ
    unfold fillR at HWZ
    go_wp2_with (fail)
    rw [HWZ.out]
    refine bodyPost_ret (results_rowP_tmp Tryd.results38 _ WZ (w.heap.size + 1) 27 _ (0, 0) _ rfl HF.out.1 Tryd.underlying27 rfl size_pf) rfl ?_
    exact ⟨_, _, _, _, _, _, { p with fst := true }, by rw [HSAY3.out, HPV.out]; rfl, HPZ.out, HF.out.2.1, fun q hq => by rw [HSAY3.out] at hq; injection hq⟩
set_option maxHeartbeats 8000000 in
set_option maxRecDepth 100000 in
theorem rsays_none (wd a : List UInt8) (h1 : wd ≠ wIgnore) (h2 : wd ≠ wKeep) (h3 : wd ≠ wBackup) (h4 : wd ≠ wDrop) (h5 : wd ≠ wMerge) (h6 : wd ≠ wPrefer) (h7 : wd ≠ wForce) (h8 : wd ≠ wBatch) (h9 : wd ≠ wFast) (h : PfAtT w A0 c0 A1 c1 A2 c2 p) (hsh : Short p) (ha : a.length ≤ 4294967280) :
    Calls Tryd.prog 38 #[pfV A0 c0 A1 c1 A2 c2 p, .string ⟨wd.toArray⟩, .string ⟨a.toArray⟩] w (RSaysOut w (saysP p wd a)) := by
  obtain ⟨r, hr⟩ : ∃ r, saysP p wd a = r := ⟨_, rfl⟩
  rw [hr]
  obtain ⟨W0, hW0⟩ : ∃ W0, (w.alloc (.cells #[.slice A0 p.ign.length c0, .slice A1 p.bak.length c1, .slice A2 p.mrg.length c2, .int .i64 p.pre, .int .i64 p.frc, .bool p.bat, .bool p.fst] 27)).alloc (.cells #[.slice none 0 0, .slice none 0 0, .slice none 0 0, .int .i64 0, .int .i64 0, .bool false, .bool false] 27) = W0 := ⟨_, rfl⟩
  have HX0 := Lib.hid (show Bx w (.slice A0 p.ign.length c0) (.slice A1 p.bak.length c1) (.slice A2 p.mrg.length c2) p W0 by rw [← hW0]; exact box_start p _ _ _ w)
  have HW0 := Lib.hid hW0
  have HP := Lib.hid h
  have HS := Lib.hid hsh
  clear hW0
  unfold pfV
  have HSAY2 : Hid (r = none) := Lib.hid (by
    rw [← hr]; unfold saysP
    rw [if_neg (by rintro (h | h); exact h1 h; exact h2 h), if_neg (by rintro (h | h); exact h3 h; exact h4 h), if_neg h5, if_neg h6, if_neg h7, if_neg h8, if_neg h9])
  have g1 : (wd == [105, 103, 110, 111, 114, 101]) = false := beq_eq_false_iff_ne.2 h1
  have g2 : (wd == [107, 101, 101, 112]) = false := beq_eq_false_iff_ne.2 h2
  have g3 : (wd == [98, 97, 99, 107, 117, 112]) = false := beq_eq_false_iff_ne.2 h3
  have g4 : (wd == [100, 114, 111, 112]) = false := beq_eq_false_iff_ne.2 h4
  have g5 : (wd == [109, 101, 114, 103, 101]) = false := beq_eq_false_iff_ne.2 h5
  have g6 : (wd == [112, 114, 101, 102, 101, 114]) = false := beq_eq_false_iff_ne.2 h6
  have g7 : (wd == [102, 111, 114, 99, 101]) = false := beq_eq_false_iff_ne.2 h7
  have g8 : (wd == [98, 97, 116, 99, 104]) = false := beq_eq_false_iff_ne.2 h8
  have g9 : (wd == [102, 97, 115, 116]) = false := beq_eq_false_iff_ne.2 h9
  clear hr h hsh ha h1 h2 h3 h4 h5 h6 h7 h8 h9
  go_enter Tryd.func38, Tryd.ntmps38
  go_upto_region 1 with (fail)
  rw [HW0.out]
  obtain ⟨p0, p1, p2, p3, p4, p5, p6⟩ := HX0.out.cells
  obtain ⟨q0, q1, q2, q3, q4, q5, q6⟩ := HX0.out.rcells
  have z1 := HX0.out.rsoft
  obtain ⟨WZ, hWZ⟩ : ∃ WZ, fillR w W0 (.slice A0 p.ign.length c0) (.slice A1 p.bak.length c1) (.slice A2 p.mrg.length c2) p = WZ := ⟨_, rfl⟩
  have HF := Lib.hid (hWZ ▸ HX0.out.fill)
  have HPZ : Hid (PfAtT WZ A0 c0 A1 c1 A2 c2 p) := Lib.hid (by
    exact HP.out.below (hWZ ▸ HX0.out.fill.2.1))
  have HWZ := Lib.hid (show _ = WZ from hWZ)
  clear hWZ
  unfold fillR at HWZ
  go_wp2_with (fail)
  rw [HWZ.out]
  refine bodyPost_ret (results_rowP_tmp Tryd.results38 _ WZ (w.heap.size + 1) 27 _ (0, 0) _ rfl HF.out.1 Tryd.underlying27 rfl size_pf) rfl ?_
  exact ⟨_, _, _, _, _, _, p, by rw [HSAY2.out]; rfl, HPZ.out, HF.out.2.1, fun q hq => by rw [HSAY2.out] at hq; cases hq⟩
end
end Go.Proofs.YtoifnnhbejofjaaDoor
end

/- The document's lines of a profile (programs). -/
section
set_option linter.unusedVariables false
namespace Go.Proofs.YtoifnnhbejofjaaDoor
open Go.RowKit Plain
section
variable {A0 A1 A2 : Option Addr} {c0 c1 c2 : Nat} {p : PF} {w : World}
set_option maxHeartbeats 8000000 in
set_option maxRecDepth 100000 in
theorem rsays_mrg (a : List UInt8) (h : PfAtT w A0 c0 A1 c1 A2 c2 p) (hsh : Short p) (ha : a.length ≤ 4294967280) :
    Calls Tryd.prog 38 #[pfV A0 c0 A1 c1 A2 c2 p, .string ⟨wMerge.toArray⟩, .string ⟨a.toArray⟩] w (RSaysOut w (saysP p wMerge a)) := by
  obtain ⟨r, hr⟩ : ∃ r, saysP p wMerge a = r := ⟨_, rfl⟩
  rw [hr]
  obtain ⟨W0, hW0⟩ : ∃ W0, (w.alloc (.cells #[.slice A0 p.ign.length c0, .slice A1 p.bak.length c1, .slice A2 p.mrg.length c2, .int .i64 p.pre, .int .i64 p.frc, .bool p.bat, .bool p.fst] 27)).alloc (.cells #[.slice none 0 0, .slice none 0 0, .slice none 0 0, .int .i64 0, .int .i64 0, .bool false, .bool false] 27) = W0 := ⟨_, rfl⟩
  have HX0 := Lib.hid (show Bx w (.slice A0 p.ign.length c0) (.slice A1 p.bak.length c1) (.slice A2 p.mrg.length c2) p W0 by rw [← hW0]; exact box_start p _ _ _ w)
  have HW0 := Lib.hid hW0
  have HP := Lib.hid h
  have HS := Lib.hid hsh
  clear hW0
  unfold pfV
  have HCUT := Lib.hid (fun W => rcut_any a W (by omega))
  have hcl := cut_le a
  have HSAY : Hid (r = if (checkP 400 (cutP a).2).2 = 0 ∧ wordP (cutP a).1 = true ∧ p.mrg.length < 100 then some { p with mrg := p.mrg ++ [⟨(cutP a).1, (cutP a).2⟩] } else none) := Lib.hid (by
    rw [← hr]; unfold saysP okPat; rw [if_neg (by decide), if_neg (by decide), if_pos rfl]; simp only [decide_eq_true_eq])
  generalize (cutP a).1 = nm at *
  generalize (cutP a).2 = pt at *
  have HCK := Lib.hid (fun W => Check_ref pt W)
  have HWD0 := Lib.hid (fun W => rword_eq nm W (by omega))
  generalize (checkP 400 pt).1 = ck1 at *
  generalize (checkP 400 pt).2 = ck2 at *
  generalize wordP nm = okw at *
  clear hr h hsh ha hcl
  unfold wMerge
  go_enter Tryd.func38, Tryd.ntmps38
  go_upto_region 1 with (fail)
  rw [HW0.out]
  go_wp2_with (fail)
  refine (HCUT.out W0).mono ?_
  rintro e w0 ⟨rfl, hw0⟩
  have HXa := Lib.hid (HX0.out.on hw0)
  clear hw0
  go_wp2_with (fail)
  refine (HCK.out _).mono ?_
  rintro e w1 ⟨rfl, hw1⟩
  have HX1 := Lib.hid (HXa.out.on hw1)
  clear hw1
  by_cases hck : ck2 = 0
  · have gck : ((ck2 : Int) != 0) = false := by rw [bne_eq_false_iff_eq]; omega
    obtain ⟨it0, hi1, hy0, hy1, hy2⟩ := info_parts info_pgm
    have HIN := Lib.hid hi1
    obtain ⟨p0, p1, p2, p3, p4, p5, p6⟩ := HX1.out.cells
    have hs2 := HX1.out.size
    have hl2 : w.heap.size < w1.heap.size := by omega
    have HRD := Lib.hid (rows_readsP (by decide) pgmV_length (HP.out.mrg.below HX1.out.below))
    have hlen := HS.out.2.2
    clear hi1
    go_wp2_with (at_builtin; refine wpList_append_slice rfl _ _ 25 rfl w1.heap.size 54 it0 _ 2 32 Tryd.underlying25 HIN.out hy0 hy1 hy2 rfl (by decide) (some ⟨w1.heap.size, 0, none⟩) 0 0 [] rfl (empty_ownP w1 54 2) A2 p.mrg.length c2 (rowsE pgmV p.mrg) rfl (HRD.out.below ((Below.refl _ _).alloc (Nat.le_refl _) _)) (rowsE_oneCell pgmV_oneCell p.mrg) ?x3 ?x4 ?x5 ?_)
    case x3 => unfold maxLen; omega
    case x4 => omega
    all_goals try (first | exact Nat.le_refl _ | (simp; done))
    intro Aa ca w2 hown2 hg2
    have hb2 : Below w1.heap.size w1 w2 := ((Below.refl _ _).alloc (Nat.le_refl _) _).grown hg2 (by simp) (fun k hk => by
      have hk' : w1.heap.size = k := by injection hk
      omega)
    try simp only [Nat.zero_add, List.nil_append] at hown2
    have HX2 := Lib.hid (HX1.out.on hb2)
    have HO2 := Lib.hid hown2
    have hs3 := hb2.size
    clear hown2 hg2 p0 p1 p2 p3 p4 p5 p6 HRD
    go_wp2_with (at_builtin; refine wpList_append_two rfl _ _ 25 rfl w1.heap.size 54 it0 _ 2 32 Tryd.underlying25 HIN.out hy0 hy1 hy2 rfl (by decide) _ _ _ rfl (HO2.out.alloc _) ⟨w2.heap.size, 0, none⟩ 1 1 [.string ⟨nm.toArray⟩, .string ⟨pt.toArray⟩] rfl rfl (laid_cells w2 _ _) (by intro u hu; simp at hu; rcases hu with rfl | rfl <;> rfl) ?y3 ?y4 ?y5 ?_)
    case y3 => unfold maxLen; omega
    case y4 => omega
    case y5 => first | omega | (simp; omega)
    intro v3 w3 hown3 hg3 hl3
    obtain ⟨A5, c5, rfl, hc51, hc52, -⟩ := IsSlice.of_own hown3
    have HCC := Lib.hid (And.intro hc51 hc52)
    have hb3 : Below w1.heap.size w1 w3 := (hb2.alloc hb2.size _).grown hg3 (by simp; omega) (fun k hk => (HO2.out.lt k hk).1)
    have HX3 := Lib.hid (HX1.out.on hb3)
    have HO3 := Lib.hid (show w3.ownsRow w1.heap.size 54 2 (.slice A5 (p.mrg.length + 1) c5) (p.mrg.length + 1) (rowsE pgmV (p.mrg ++ [⟨nm, pt⟩])) by rw [rowsE_append, rowsE_one]; exact hown3)
    have p2 := HX3.out.cells.2.2.1
    have zz := HX3.out.soft 2
    obtain ⟨Wd, hWd⟩ : ∃ Wd, w3.setCell ⟨w.heap.size, 2, none⟩ (.slice A5 (p.mrg.length + 1) c5) = Wd := ⟨_, rfl⟩
    have HWD := Lib.hid hWd
    have HBX : Hid (Bx w (.slice A0 p.ign.length c0) (.slice A1 p.bak.length c1) (.slice A5 (p.mrg.length + 1) c5) { p with mrg := p.mrg ++ [⟨nm, pt⟩] } Wd) := Lib.hid (hWd ▸ HX3.out.put rfl)
    have HLE := Lib.hid hs2
    have HOD : Hid (Wd.ownsRow w1.heap.size 54 2 (.slice A5 (p.mrg.length + 1) c5) (p.mrg.length + 1) (rowsE pgmV (p.mrg ++ [⟨nm, pt⟩]))) := Lib.hid (own_two w HO3.out HLE.out (hWd ▸ ((only_cell w3 w.heap.size 2 _).mono (fun k hk => Or.inl hk))))
    have HPV : Hid (pfV A0 c0 A1 c1 A5 c5 { p with mrg := p.mrg ++ [⟨nm, pt⟩] } = .agg #[.slice A0 p.ign.length c0, .slice A1 p.bak.length c1, .slice A5 (p.mrg.length + 1) c5, .int .i64 p.pre, .int .i64 p.frc, .bool p.bat, .bool p.fst]) := Lib.hid (by unfold pfV; simp only [List.length_append, List.length_singleton])
    clear hown3 hg3 hl3 hb2 hb3 HX1 HX2 HO2 HX3 HO3 hWd hc51 hc52
    go_upto_region 25 with (fail)
    rw [HWD.out]
    clear p2 zz HWD
    obtain ⟨b100, hb100⟩ : ∃ b, decide ((p.mrg.length : Int) + 1 ≤ 100) = b := ⟨_, rfl⟩
    have HSAY3 : Hid (r = if (okw && b100) = true then some { p with mrg := p.mrg ++ [⟨nm, pt⟩] } else none) := Lib.hid (by
      rw [HSAY.out, ← hb100]
      by_cases h1 : okw = true
      · by_cases h2 : p.mrg.length < 100
        · rw [if_pos ⟨hck, h1, h2⟩, if_pos (by rw [h1, decide_eq_true (by omega)]; rfl)]
        · rw [if_neg (fun h => h2 h.2.2), if_neg (by rw [h1, decide_eq_false (by omega)]; decide)]
      · rw [if_neg (fun h => h1 h.2.1), if_neg (by simp [h1])])
    clear hck HSAY
    cases okw with
    | false =>
      have HSAY4 := Lib.hid (HSAY3.out.trans (if_neg (by simp)))
      clear HSAY3
      obtain ⟨p0, p1, p2, p3, p4, p5, p6⟩ := HBX.out.cells
      obtain ⟨q0, q1, q2, q3, q4, q5, q6⟩ := HBX.out.rcells
      have z1 := HBX.out.rsoft
      obtain ⟨WZ, hWZ⟩ : ∃ WZ, fillR w Wd (.slice A0 p.ign.length c0) (.slice A1 p.bak.length c1) (.slice A5 (p.mrg.length + 1) c5) { p with mrg := p.mrg ++ [⟨nm, pt⟩] } = WZ := ⟨_, rfl⟩
      have HF := Lib.hid (hWZ ▸ HBX.out.fill)
      have HPZ : Hid (PfAtT WZ A0 c0 A1 c1 A5 c5 { p with mrg := p.mrg ++ [⟨nm, pt⟩] }) := Lib.hid (by
        have hbz := hWZ ▸ HBX.out.fill.2.1
        have hoz : Only (fun k => k = w.heap.size ∨ k = w.heap.size + 1) Wd WZ := hWZ ▸ (HBX.out.fill.2.2.mono (fun k hk => .inr hk))
        have HRW : Hid (IsRows WZ 2 A5 (List.map pgmV (p.mrg ++ [(⟨nm, pt⟩ : Prg)]))) := Lib.hid (own_rowsP pgmV_length (own_two w HOD.out HLE.out hoz) (by simp))
        exact ⟨⟨HP.out.ign.below hbz, HP.out.bak.below hbz, HRW.out, ⟨HP.out.cap.1, HP.out.cap.2.1, by simp; exact HCC.out.1⟩, ⟨HP.out.len.1, HP.out.len.2.1, HCC.out.2⟩⟩, HP.out.tag.1.below hbz, HP.out.tag.2.1.below hbz, Tg.own (own_two w HOD.out HLE.out hoz)⟩)
      have HWZ := Lib.hid (show _ = WZ from hWZ)
      clear hWZ
      unfold fillR at HWZ
      go_wp2_with (fail)
      first | (go_region_with (go_at_call 26; refine (HWD0.out _).mono ?_; rintro e w9 ⟨rfl, rfl⟩)) | fail
      all_goals
        go_wp2_with (fail)
        rw [HWZ.out]
        refine bodyPost_ret (results_rowP_tmp Tryd.results38 _ WZ.drew (w.heap.size + 1) 27 _ (0, 0) _ rfl HF.out.1 Tryd.underlying27 rfl size_pf) rfl ?_
        exact ⟨_, _, _, _, _, _, { p with mrg := p.mrg ++ [⟨nm, pt⟩] }, by rw [HSAY4.out, HPV.out]; rfl, HPZ.out.below (still_drew _), HF.out.2.1.trans ((still_drew _).mono HF.out.2.1.size), fun q hq => by rw [HSAY4.out] at hq; cases hq⟩
    | true =>
      obtain ⟨p0, p1, p2, p3, p4, p5, p6⟩ := HBX.out.cells
      obtain ⟨q0, q1, q2, q3, q4, q5, q6⟩ := HBX.out.rcells
      have z1 := HBX.out.rsoft
      obtain ⟨WZ, hWZ⟩ : ∃ WZ, fillR w Wd (.slice A0 p.ign.length c0) (.slice A1 p.bak.length c1) (.slice A5 (p.mrg.length + 1) c5) { p with mrg := p.mrg ++ [⟨nm, pt⟩] } = WZ := ⟨_, rfl⟩
      have HF := Lib.hid (hWZ ▸ HBX.out.fill)
      have HPZ : Hid (PfAtT WZ A0 c0 A1 c1 A5 c5 { p with mrg := p.mrg ++ [⟨nm, pt⟩] }) := Lib.hid (by
        have hbz := hWZ ▸ HBX.out.fill.2.1
        have hoz : Only (fun k => k = w.heap.size ∨ k = w.heap.size + 1) Wd WZ := hWZ ▸ (HBX.out.fill.2.2.mono (fun k hk => .inr hk))
        have HRW : Hid (IsRows WZ 2 A5 (List.map pgmV (p.mrg ++ [(⟨nm, pt⟩ : Prg)]))) := Lib.hid (own_rowsP pgmV_length (own_two w HOD.out HLE.out hoz) (by simp))
        exact ⟨⟨HP.out.ign.below hbz, HP.out.bak.below hbz, HRW.out, ⟨HP.out.cap.1, HP.out.cap.2.1, by simp; exact HCC.out.1⟩, ⟨HP.out.len.1, HP.out.len.2.1, HCC.out.2⟩⟩, HP.out.tag.1.below hbz, HP.out.tag.2.1.below hbz, Tg.own (own_two w HOD.out HLE.out hoz)⟩)
      have HWZ := Lib.hid (show _ = WZ from hWZ)
      clear hWZ
      unfold fillR at HWZ
      go_wp2_with (fail)
      first | (go_region_with (go_at_call 26; refine (HWD0.out _).mono ?_; rintro e w9 ⟨rfl, rfl⟩)) | fail
      all_goals
        go_wp2_with (fail)
        rw [HWZ.out]
        refine bodyPost_ret (results_rowP_tmp Tryd.results38 _ WZ.drew (w.heap.size + 1) 27 _ (0, 0) _ rfl HF.out.1 Tryd.underlying27 rfl size_pf) rfl ?_
        exact ⟨_, _, _, _, _, _, { p with mrg := p.mrg ++ [⟨nm, pt⟩] }, by rw [HSAY3.out, HPV.out]; cases b100 <;> rfl, HPZ.out.below (still_drew _), HF.out.2.1.trans ((still_drew _).mono HF.out.2.1.size), fun q hq => by rw [HSAY3.out] at hq; split at hq; (injection hq); (cases hq)⟩
  · have gck : ((ck2 : Int) != 0) = true := by rw [bne_iff_ne]; omega
    have HSAY2 := Lib.hid (HSAY.out.trans (if_neg (fun h => hck h.1)))
    clear hck HSAY
    obtain ⟨p0, p1, p2, p3, p4, p5, p6⟩ := HX1.out.cells
    obtain ⟨q0, q1, q2, q3, q4, q5, q6⟩ := HX1.out.rcells
    have z1 := HX1.out.rsoft
    obtain ⟨WZ, hWZ⟩ : ∃ WZ, fillR w w1 (.slice A0 p.ign.length c0) (.slice A1 p.bak.length c1) (.slice A2 p.mrg.length c2) p = WZ := ⟨_, rfl⟩
    have HF := Lib.hid (hWZ ▸ HX1.out.fill)
    have HPZ : Hid (PfAtT WZ A0 c0 A1 c1 A2 c2 p) := Lib.hid (by
      exact HP.out.below (hWZ ▸ HX1.out.fill.2.1))
    have HWZ := Lib.hid (show _ = WZ from hWZ)
    clear hWZ
    unfold fillR at HWZ
    go_wp2_with (fail)
    rw [HWZ.out]
    refine bodyPost_ret (results_rowP_tmp Tryd.results38 _ WZ (w.heap.size + 1) 27 _ (0, 0) _ rfl HF.out.1 Tryd.underlying27 rfl size_pf) rfl ?_
    exact ⟨_, _, _, _, _, _, p, by rw [HSAY2.out]; rfl, HPZ.out, HF.out.2.1, fun q hq => by rw [HSAY2.out] at hq; cases hq⟩
end
end Go.Proofs.YtoifnnhbejofjaaDoor
end

/- The document's lines of a profile (all). -/
section
set_option linter.unusedVariables false
namespace Go.Proofs.YtoifnnhbejofjaaDoor
open Go.RowKit Plain
section
variable {A0 A1 A2 : Option Addr} {c0 c1 c2 : Nat} {p : PF} {w : World}
theorem rsays_any (wd a : List UInt8) (h : PfAtT w A0 c0 A1 c1 A2 c2 p) (hsh : Short p) (ha : a.length ≤ 4294967280) :
    Calls Tryd.prog 38 #[pfV A0 c0 A1 c1 A2 c2 p, .string ⟨wd.toArray⟩, .string ⟨a.toArray⟩] w (RSaysOut w (saysP p wd a)) := by
  by_cases h1 : wd = wIgnore
  · exact rsays_ign wd a (.inl h1) h hsh ha
  by_cases h2 : wd = wKeep
  · exact rsays_ign wd a (.inr h2) h hsh ha
  by_cases h3 : wd = wBackup
  · exact rsays_bak wd a (.inl h3) h hsh ha
  by_cases h4 : wd = wDrop
  · exact rsays_bak wd a (.inr h4) h hsh ha
  by_cases h5 : wd = wMerge
  · subst h5; exact rsays_mrg a h hsh ha
  by_cases h6 : wd = wPrefer
  · subst h6; exact rsays_pre a h hsh ha
  by_cases h7 : wd = wForce
  · subst h7; exact rsays_frc a h hsh ha
  by_cases h8 : wd = wBatch
  · subst h8; exact rsays_bat a h hsh ha
  by_cases h9 : wd = wFast
  · subst h9; exact rsays_fst a h hsh ha
  exact rsays_none wd a h1 h2 h3 h4 h5 h6 h7 h8 h9 h hsh ha
end
end Go.Proofs.YtoifnnhbejofjaaDoor
end
