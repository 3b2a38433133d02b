/- Texts joined: Lit4, Lit5, Lit6, Close, Open, Trod, Card, GlobLBase. -/
import Derived.Test.YtgppfcaghjbjmaaGreatDoorBGlobLBase9
import Derived.Test.YtgppfcaghjbjmaaGreatDoorShelf
import Derived.Lib.SlBuf
import Derived.BigQuiet
import Derived.Deep.DeepCutAuto
import Derived.Deep.CutBlock
import Derived.Handy
import Derived.Test.YtgppfcaghjbjmaaGreatDoorBGlobLBase7
import Derived.Test.YtgppfcaghjbjmaaGreatDoorBGlobLBase8
import Derived.Test.YtgppfcaghjbjmaaGreatDoorBGlobLBase6
import Derived.Test.YtgppfcaghjbjmaaGreatDoorBGlobLBase1
import Derived.ProofKit
import Derived.OpenShut
import Derived.JoinedCond
import Derived.Test.YtgppfcaghjbjmaaGreatDoorBGlobLBase3
import Derived.Deep.CondSized
import Derived.ChangeArms
import Derived.Test.YtgppfcaghjbjmaaGreatDoorCards
import Derived.Test.YtgppfcaghjbjmaaGreatDoorTie
import Derived.Deep.DeepHandedRow
import Derived.Lib.SmallJoins
set_option linter.unusedSimpArgs false
set_option linter.unusedVariables false

/- The table's Replace. -/
section
set_option linter.unusedVariables false
set_option linter.unusedSimpArgs false
namespace Go.Proofs.YtgppfcaghjbjmaaGreatDoor
open Go.RowKit Plain

theorem TabL.cellNo {lo g : Nat} {W : World} (h : TabL lo g W) (c : UInt8) (hc : isKey c = false) : W.cell? ⟨g, c.toNat, none⟩ = some (.slice none 0 0) := by
  refine h.2.2.1 c.toNat (UInt8.toNat_lt c) fun j hj e => ?_
  have e2 : c = keys.getD j 0 := UInt8.toNat_inj.1 (by rw [← e]; rfl)
  subst e2
  match j, hj with
  | 0, _ => cases hc
  | 1, _ => cases hc
  | 2, _ => cases hc
  | 3, _ => cases hc
theorem TabL.cellYes {lo g : Nat} {W : World} (h : TabL lo g W) (c : UInt8) (hc : isKey c = true) : ∃ q cp, W.cell? ⟨g, c.toNat, none⟩ = some (.slice (some ⟨q, 0, none⟩) 2 cp) ∧ lo ≤ q ∧ W.cell? ⟨q, 0, none⟩ = some (.int .u8 92) ∧ W.cell? ⟨q, 1, none⟩ = some (.int .u8 c.toNat) := by
  have hj : ∃ j, j < 4 ∧ c = keys.getD j 0 := by
    unfold isKey at hc
    simp only [Bool.or_eq_true, beq_iff_eq] at hc
    rcases hc with ((rfl | rfl) | rfl) | rfl
    · exact ⟨0, by omega, rfl⟩
    · exact ⟨1, by omega, rfl⟩
    · exact ⟨2, by omega, rfl⟩
    · exact ⟨3, by omega, rfl⟩
  obtain ⟨j, hj, rfl⟩ := hj
  exact h.2.2.2 j hj

theorem info_u8E : (Tryz.prog.info? 5).map (fun i => (i.zero, i.size, i.bytes)) = some (some (.int .u8 0), 1, 1) := by kernel_rfl
theorem Buf.keep {w0 wr W : World} {h N : Nat} {acc : List UInt8} (hb : Lib.Buf w0 wr h N acc) (hlt : h < wr.heap.size) (hW : Below wr.heap.size wr W) : Lib.Buf w0 W h N acc := by
  have hh := hW.block h hlt
  have hc : ∀ j, W.cell? ⟨h, j, none⟩ = wr.cell? ⟨h, j, none⟩ := fun j => by unfold World.cell?; simp only [hh]
  have hf : ∀ j, W.frozen? ⟨h, j, none⟩ = wr.frozen? ⟨h, j, none⟩ := fun j => by unfold World.frozen?; simp only [hh]
  exact ⟨hb.below.trans (hW.mono (by omega)), fun j hj => by rw [hc]; exact hb.there j hj, fun j hj => by rw [hf]; exact hb.free j hj, fun j x hx => by rw [hc]; exact hb.holds j x hx, hb.fits⟩
theorem Buf.put {w0 wr : World} {h N : Nat} {acc : List UInt8} (hb : Lib.Buf w0 wr h N acc) (c : UInt8) (hN : acc.length < N) : Lib.Buf w0 (wr.setCell ⟨h, acc.length, none⟩ (.int .u8 c.toNat)) h N (acc ++ [c]) := by
  obtain ⟨v, hv⟩ := Option.isSome_iff_exists.1 (hb.there _ hN)
  have hs := World.cell?_setCell_same wr ⟨h, acc.length, none⟩ (.int .u8 (c.toNat : Int)) hv
  have ho : ∀ j, j ≠ acc.length → (wr.setCell ⟨h, acc.length, none⟩ (.int .u8 (c.toNat : Int))).cell? ⟨h, j, none⟩ = wr.cell? ⟨h, j, none⟩ := fun j hj => World.cell?_setCell_other _ _ _ _ (by simpa using fun e => hj e.symm)
  refine ⟨hb.below.setCell (p := ⟨h, acc.length, none⟩) (Nat.le_refl _) _, fun j hj => ?_, fun j hj => by simpa using hb.free j hj, fun j x hx => ?_, by simp; omega⟩
  · by_cases e : j = acc.length
    · subst e; rw [hs]; rfl
    · rw [ho j e]; exact hb.there j hj
  · by_cases e : j = acc.length
    · subst e
      rw [List.getElem?_append_right (Nat.le_refl _), Nat.sub_self] at hx
      simp at hx
      subst hx
      exact hs
    · rw [ho j e]
      have hl : j < acc.length := by
        have := (List.getElem?_eq_some_iff.1 hx).1
        simp at this
        omega
      rw [List.getElem?_append_left hl] at hx
      exact hb.holds j x hx
theorem Buf.text {P : Program} {w0 wr : World} {h : Nat} {acc : List UInt8} (src e dst : TypeId) (hs : P.underlying src = some (.slice e)) (he : P.underlying e = some (.int .u8)) (hd : P.underlying dst = some .string) (hb : Lib.Buf w0 wr h acc.length acc) :
    (convert src dst (.slice (some ⟨h, 0, none⟩) acc.length acc.length)).run P wr = .ok (.string ⟨acc.toArray⟩) wr := by
  have e1 : (acc.map fun c => (c.toNat : Int)).map (fun n => UInt8.ofNat n.toNat) = acc := by simp [Function.comp_def]
  have h1 : (convert src dst (.slice (some ⟨h, 0, none⟩) acc.length acc.length)).run P wr = .ok (.string ⟨((acc.map fun c => (c.toNat : Int)).map (fun n => UInt8.ofNat n.toNat)).toArray⟩) wr :=
    by
    have h2 := run_convert_bytes_arg (P := P) wr src e hs he h 0 acc.length acc.length (acc.map fun c : UInt8 => (c.toNat : Int)) (by simp) (fun i hi => by
      have hi' : i < acc.length := by simpa using hi
      have := hb.holds i acc[i] (List.getElem?_eq_getElem hi')
      simpa [hi'] using this) dst hd
    exact h2
  rw [e1] at h1
  exact h1

def cntK (s : List UInt8) : Nat → Nat
  | 0 => 0
  | k + 1 => cntK s k + s.count (keys.getD k 0)

set_option maxRecDepth 100000 in
set_option maxHeartbeats 4000000 in
theorem bsr_Replace (lo g : Nat) (s : List UInt8) (w : World) (hT : TabL lo g w) (hl : s.length ≤ 4096) :
    Calls Tryz.prog 144 #[.pointer (some ⟨g, 0, none⟩), .string ⟨s.toArray⟩] w (Ret w (.string ⟨(escM s).toArray⟩)) := by
  obtain ⟨A, c, h256, hR, hA⟩ := hT.2.1
  obtain ⟨ad, rfl, hr⟩ := hR.2 (by omega)
  have r0 : w.cell? ad = some (.string ⟨#[92]⟩) := hr 0 _ rfl
  have r1 : w.cell? ⟨ad.block, ad.off + 1, none⟩ = some (.string ⟨#[91]⟩) := hr 1 _ rfl
  have r2 : w.cell? ⟨ad.block, ad.off + 2, none⟩ = some (.string ⟨#[63]⟩) := hr 2 _ rfl
  have r3 : w.cell? ⟨ad.block, ad.off + 3, none⟩ = some (.string ⟨#[42]⟩) := hr 3 _ rfl
  have HT := Lib.hid hT
  have hcl := List.countP_le_length (p := isKey) (l := s)
  have h4 := count4 s
  have HC : ∀ (x : UInt8) (W : World), Calls Tryz.prog 32 #[.string ⟨s.toArray⟩, .string ⟨#[x]⟩] W fun e w' => e = .returned (.int .i64 (s.count x : Nat)) ∧ w' = W := fun x W => Tryz.strings_Count_one ⟨s.toArray⟩ x W
  clear hT hR hA hr
  go_enter Tryz.func144, Tryz.ntmps144
  go_upto_region 2 with fail
  go_cut [6] (fun t6 W => t6 = .bool false ∧ W = w)
  case first =>
    go_wp2_with (fail)
    go_meet
    exact ⟨rfl, rfl⟩
  case rest =>
  obtain ⟨rfl, rfl⟩ := hcut
  apply_assumption
  refine wp_seq_k fun KR hKR => ?_
  go_cut [5, 6] (fun t5 t6 W => t5 = .int .i64 ((s.length + s.countP isKey : Nat) : Int) ∧ t6 = .bool (decide (0 < s.countP isKey)) ∧ ∃ m, W = wc.drewN m)
  case first =>
    by_cases hS : 32 ≤ s.length
    · have hS' : decide ((32 : Int) ≤ s.length) = true := by simp; omega
      have hS2 : (32 : Int) ≤ s.length := by omega
      go_wp2_with (fail)
      go_loopw [5, 6, 32] (fun t5 t6 t32 W => ∃ k : Nat, k ≤ 4 ∧ t32 = .int .i64 (k : Nat) ∧ t5 = .int .i64 ((s.length + cntK s k : Nat) : Int) ∧ t6 = .bool (decide (0 < cntK s k)) ∧ ∃ m, W = wc.drewN m) (fun _ _ t32 _ => 4 - (intOf t32).toNat)
      case atStart => exact ⟨0, by omega, rfl, rfl, rfl, 0, rfl⟩
      case round =>
      obtain ⟨k, hk, rfl, rfl, rfl, nd, rfl⟩ := hrel
      match k, hk with
      | 0, _ =>
        obtain ⟨q, cp, d1, _, _, _⟩ := HT.out.cellYes 92 rfl
        rw [show (92 : UInt8).toNat = 92 from rfl] at d1
        go_wp2_with (go_at_call 32; refine (HC 92 _).mono ?_; rintro e w' ⟨rfl, rfl⟩)
        have hb : cntK s 0 + s.count 92 ≤ 4096 := by simp only [cntK, keys, List.getD_cons_zero, List.getD_cons_succ]; omega
        have hw : IntKind.i64.wrap ((s.length : Int) + (cntK s 0 : Int) + (s.count 92 : Int)) = ((s.length + (cntK s 0 + s.count 92) : Nat) : Int) := by
          rw [IntWalk.i64_in _ (by omega)]; omega
        go_wp2_with (go_at_call 32; refine (HC 92 _).mono ?_; rintro e w' ⟨rfl, rfl⟩)
        · have h0 : s.count 92 ≠ 0 := by
            first
              | omega
              | (have hh := ‹(((s.count 92 : Nat) : Int) != 0) = true›
                 intro e
                 rw [e] at hh
                 exact absurd hh (by decide))
          go_quiet (fail)
          go_wp2_with (fail)
          go_roundw
          case rel => exact ⟨0 + 1, by omega, rfl, by show _ = Value.int .i64 ((s.length + (cntK s 0 + s.count 92) : Nat) : Int); go_num, by rw [decide_eq_true (show 0 < cntK s (0 + 1) from (show 0 < cntK s 0 + s.count 92 by omega))], _, rfl⟩
          case measure => simp [intOf]
        · have h0 : s.count 92 = 0 := by
            rename_i hh
            simpa using hh
          have e1 : cntK s (0 + 1) = cntK s 0 := by show cntK s 0 + s.count 92 = _; omega
          go_roundw
          case rel => exact ⟨0 + 1, by omega, rfl, by rw [e1]; rfl, by rw [e1], _, rfl⟩
          case measure => simp [intOf]
      | 1, _ =>
        obtain ⟨q, cp, d1, _, _, _⟩ := HT.out.cellYes 91 rfl
        rw [show (91 : UInt8).toNat = 91 from rfl] at d1
        go_wp2_with (go_at_call 32; refine (HC 91 _).mono ?_; rintro e w' ⟨rfl, rfl⟩)
        have hb : cntK s 1 + s.count 91 ≤ 4096 := by simp only [cntK, keys, List.getD_cons_zero, List.getD_cons_succ]; omega
        have hw : IntKind.i64.wrap ((s.length : Int) + (cntK s 1 : Int) + (s.count 91 : Int)) = ((s.length + (cntK s 1 + s.count 91) : Nat) : Int) := by
          rw [IntWalk.i64_in _ (by omega)]; omega
        go_wp2_with (go_at_call 32; refine (HC 91 _).mono ?_; rintro e w' ⟨rfl, rfl⟩)
        · have h0 : s.count 91 ≠ 0 := by
            first
              | omega
              | (have hh := ‹(((s.count 91 : Nat) : Int) != 0) = true›
                 intro e
                 rw [e] at hh
                 exact absurd hh (by decide))
          go_quiet (fail)
          go_wp2_with (fail)
          go_roundw
          case rel => exact ⟨1 + 1, by omega, rfl, by show _ = Value.int .i64 ((s.length + (cntK s 1 + s.count 91) : Nat) : Int); go_num, by rw [decide_eq_true (show 0 < cntK s (1 + 1) from (show 0 < cntK s 1 + s.count 91 by omega))], _, rfl⟩
          case measure => simp [intOf]
        · have h0 : s.count 91 = 0 := by
            rename_i hh
            simpa using hh
          have e1 : cntK s (1 + 1) = cntK s 1 := by show cntK s 1 + s.count 91 = _; omega
          go_roundw
          case rel => exact ⟨1 + 1, by omega, rfl, by rw [e1]; rfl, by rw [e1], _, rfl⟩
          case measure => simp [intOf]
      | 2, _ =>
        obtain ⟨q, cp, d1, _, _, _⟩ := HT.out.cellYes 63 rfl
        rw [show (63 : UInt8).toNat = 63 from rfl] at d1
        go_wp2_with (go_at_call 32; refine (HC 63 _).mono ?_; rintro e w' ⟨rfl, rfl⟩)
        have hb : cntK s 2 + s.count 63 ≤ 4096 := by simp only [cntK, keys, List.getD_cons_zero, List.getD_cons_succ]; omega
        have hw : IntKind.i64.wrap ((s.length : Int) + (cntK s 2 : Int) + (s.count 63 : Int)) = ((s.length + (cntK s 2 + s.count 63) : Nat) : Int) := by
          rw [IntWalk.i64_in _ (by omega)]; omega
        go_wp2_with (go_at_call 32; refine (HC 63 _).mono ?_; rintro e w' ⟨rfl, rfl⟩)
        · have h0 : s.count 63 ≠ 0 := by
            first
              | omega
              | (have hh := ‹(((s.count 63 : Nat) : Int) != 0) = true›
                 intro e
                 rw [e] at hh
                 exact absurd hh (by decide))
          go_quiet (fail)
          go_wp2_with (fail)
          go_roundw
          case rel => exact ⟨2 + 1, by omega, rfl, by show _ = Value.int .i64 ((s.length + (cntK s 2 + s.count 63) : Nat) : Int); go_num, by rw [decide_eq_true (show 0 < cntK s (2 + 1) from (show 0 < cntK s 2 + s.count 63 by omega))], _, rfl⟩
          case measure => simp [intOf]
        · have h0 : s.count 63 = 0 := by
            rename_i hh
            simpa using hh
          have e1 : cntK s (2 + 1) = cntK s 2 := by show cntK s 2 + s.count 63 = _; omega
          go_roundw
          case rel => exact ⟨2 + 1, by omega, rfl, by rw [e1]; rfl, by rw [e1], _, rfl⟩
          case measure => simp [intOf]
      | 3, _ =>
        obtain ⟨q, cp, d1, _, _, _⟩ := HT.out.cellYes 42 rfl
        rw [show (42 : UInt8).toNat = 42 from rfl] at d1
        go_wp2_with (go_at_call 32; refine (HC 42 _).mono ?_; rintro e w' ⟨rfl, rfl⟩)
        have hb : cntK s 3 + s.count 42 ≤ 4096 := by simp only [cntK, keys, List.getD_cons_zero, List.getD_cons_succ]; omega
        have hw : IntKind.i64.wrap ((s.length : Int) + (cntK s 3 : Int) + (s.count 42 : Int)) = ((s.length + (cntK s 3 + s.count 42) : Nat) : Int) := by
          rw [IntWalk.i64_in _ (by omega)]; omega
        go_wp2_with (go_at_call 32; refine (HC 42 _).mono ?_; rintro e w' ⟨rfl, rfl⟩)
        · have h0 : s.count 42 ≠ 0 := by
            first
              | omega
              | (have hh := ‹(((s.count 42 : Nat) : Int) != 0) = true›
                 intro e
                 rw [e] at hh
                 exact absurd hh (by decide))
          go_quiet (fail)
          go_wp2_with (fail)
          go_roundw
          case rel => exact ⟨3 + 1, by omega, rfl, by show _ = Value.int .i64 ((s.length + (cntK s 3 + s.count 42) : Nat) : Int); go_num, by rw [decide_eq_true (show 0 < cntK s (3 + 1) from (show 0 < cntK s 3 + s.count 42 by omega))], _, rfl⟩
          case measure => simp [intOf]
        · have h0 : s.count 42 = 0 := by
            rename_i hh
            simpa using hh
          have e1 : cntK s (3 + 1) = cntK s 3 := by show cntK s 3 + s.count 42 = _; omega
          go_roundw
          case rel => exact ⟨3 + 1, by omega, rfl, by rw [e1]; rfl, by rw [e1], _, rfl⟩
          case measure => simp [intOf]
      | 4, _ =>
        have e4 : cntK s 4 = s.countP isKey := by
          show 0 + s.count 92 + s.count 91 + s.count 63 + s.count 42 = _
          omega
        rw [e4]
        go_wp2_with (fail)
        go_meet
        exact ⟨by simp, rfl, _, rfl⟩
      | _ + 5, hk => omega
    · have hS' : decide ((32 : Int) ≤ s.length) = false := by simp; omega
      have hS2 : ¬ (32 : Int) ≤ s.length := by omega
      go_wp2_with (fail)
      go_loopw [5, 6, 10] (fun t5 t6 t10 W => ∃ i : Nat, i ≤ s.length ∧ t10 = .int .i64 (i : Nat) ∧ t5 = .int .i64 ((s.length + (s.take i).countP isKey : Nat) : Int) ∧ t6 = .bool (decide (0 < (s.take i).countP isKey)) ∧ W = wc) (fun _ _ t10 _ => s.length - (intOf t10).toNat)
      case atStart => exact ⟨0, by omega, rfl, by simp, by simp, rfl⟩
      case round =>
      obtain ⟨i, hi, rfl, rfl, rfl, rfl⟩ := hrel
      by_cases hlt : i < s.length
      · have hk0 : (0 : Int) ≤ i := by omega
        have hki : (i : Int) < s.length := by omega
        have hcp := countP_take hlt
        have hle := countP_le s i
        have h256c : (s[i].toNat : Int) < 256 := by have := UInt8.toNat_lt s[i]; omega
        have hc0 : (0 : Int) ≤ s[i].toNat := by omega
        cases hkey : isKey s[i] with
        | true =>
          obtain ⟨q, cp, d1, _, _, _⟩ := HT.out.cellYes s[i] hkey
          rw [hkey, if_pos rfl] at hcp
          have hnq : ∀ W, (Go.binOp .neq 37 (.slice (some ⟨q, 0, none⟩) 2 cp) (.slice none 0 0)).run Tryz.prog W = .ok (.bool true) W := fun _ => rfl
          go_wp2_with (fail)
          go_roundw
          case rel => exact ⟨i + 1, by omega, by go_num, by rw [hcp]; go_num, by rw [hcp]; simp, trivial⟩
          case measure => simp [intOf]; omega
        | false =>
          have d1 := HT.out.cellNo s[i] hkey
          rw [hkey] at hcp
          simp only [Bool.false_eq_true, if_false, Nat.add_zero] at hcp
          have hnq : ∀ W, (Go.binOp .neq 37 (.slice none 0 0) (.slice none 0 0)).run Tryz.prog W = .ok (.bool false) W := fun _ => rfl
          go_wp2_with (fail)
          go_roundw
          case rel => exact ⟨i + 1, by omega, by go_num, by rw [hcp], by rw [hcp], trivial⟩
          case measure => simp [intOf]; omega
      · have hi' : i = s.length := by omega
        subst hi'
        rw [List.take_length]
        go_wp2_with (fail)
        go_meet
        exact ⟨rfl, rfl, 0, rfl⟩
  case rest =>
  obtain ⟨rfl, rfl, md, rfl⟩ := hcut
  apply_assumption
  clear r0 r1 r2 r3 h256 HC
  by_cases h0 : s.countP isKey = 0
  · rw [escM_id h0]
    have hd0 : decide (0 < s.countP isKey) = false := decide_eq_false (by omega)
    rw [hd0]
    go_wp2_with (fail)
    go_ret
    exact ⟨rfl, below_drewN (Below.refl _ _) md⟩
  · have hd0 : decide (0 < s.countP isKey) = true := decide_eq_true (by omega)
    have hN : (escM s).length ≤ 8192 := by rw [escM_len]; omega
    rw [hd0, ← escM_len]
    obtain ⟨iu, hiu, hz0, hz1, hz2⟩ := info_parts info_u8E
    have hmk : (Instr.makeSlice 37 (.int .i64 ((escM s).length : Int)) (.int .i64 ((escM s).length : Int))).run Tryz.prog (wc.drewN md) = .ok (.slice (some ⟨wc.heap.size, 0, none⟩) (escM s).length (escM s).length) ((wc.drewN md).alloc (.cells (madeCells #[.int .u8 0] (escM s).length) 5)) := by
      have := run_make (P := Tryz.prog) (wc.drewN md) 37 5 iu _ Tryz.underlying37 hiu hz0 .i64 .i64 (escM s).length (escM s).length (by omega) (by omega) (by rw [hz2]; omega) (by omega)
      rw [hz1, Nat.mul_one] at this
      simp only [Int.toNat_natCast] at this
      exact this
    have HBF : Hid (Lib.Buf (wc.drewN md) ((wc.drewN md).alloc (.cells (madeCells #[.int .u8 0] (escM s).length) 5)) wc.heap.size (escM s).length []) := Lib.hid (Lib.Buf.start (wc.drewN md) (madeCells #[.int .u8 0] (escM s).length) 5 (escM s).length 0 (by rw [size_madeCells]; simp))
    clear hiu hz0 hz1 hz2
    go_wp2_with (fail)
    have hsz : wc.heap.size < ((wc.drewN md).alloc (.cells (madeCells #[.int .u8 0] (escM s).length) 5)).heap.size := by simp
    go_loopw [13, 14] (fun t13 t14 W => ∃ i : Nat, i ≤ s.length ∧ t14 = .int .i64 (i : Nat) ∧ t13 = .int .i64 ((escM (s.take i)).length : Nat) ∧ Hid (Lib.Buf (wc.drewN md) W wc.heap.size (escM s).length (escM (s.take i))) ∧ wc.heap.size < W.heap.size) (fun _ t14 _ => s.length - (intOf t14).toNat)
    case atStart => exact ⟨0, by omega, rfl, rfl, HBF, hsz⟩
    case round =>
    clear HBF hsz
    obtain ⟨i, hi, rfl, rfl, HB, hsz⟩ := hrel
    by_cases hlt : i < s.length
    · have hk0 : (0 : Int) ≤ i := by omega
      have hki : (i : Int) < s.length := by omega
      have h256c : (s[i].toNat : Int) < 256 := by have := UInt8.toNat_lt s[i]; omega
      have hc0 : (0 : Int) ≤ s[i].toNat := by omega
      have hes := escM_take hlt
      have hlen : (escM (s.take (i + 1))).length ≤ (escM s).length := by
        rw [escM_len, escM_len, countP_take hlt]
        have h1 : (s.take (i + 1)).countP isKey ≤ s.countP isKey := (List.take_sublist (i + 1) s).countP_le
        rw [countP_take hlt] at h1
        simp
        omega
      cases hkey : isKey s[i] with
      | true =>
        obtain ⟨q, cp, d1, _, d3, d4⟩ := HT.out.cellYes s[i] hkey
        have d2 := HB.out.below.cell (World.block_lt_of_cell? _ _ d1) |>.trans d1
        have hec : escC s[i] = [92, s[i]] := by unfold escC; rw [hkey]; rfl
        rw [hec] at hes
        rw [hes, List.length_append] at hlen
        have hlen' : (escM (s.take i)).length + 2 ≤ (escM s).length := hlen
        have hnq : ∀ W, (Go.binOp .neq 37 (.slice (some ⟨q, 0, none⟩) 2 cp) (.slice none 0 0)).run Tryz.prog W = .ok (.bool true) W := fun _ => rfl
        have hsl : ∀ W, (Instr.slice 37 (.slice (some ⟨wc.heap.size, 0, none⟩) (escM s).length (escM s).length) (some (.int .i64 ((escM (s.take i)).length : Int))) none none).run Tryz.prog W = .ok (Lib.tailV wc.heap.size (escM s).length (escM (s.take i)).length) W :=
          fun W => Lib.run_slice_tailV W 37 5 Tryz.underlying37 (fun w => rfl) wc.heap.size (escM s).length (escM (s.take i)).length (by omega)
        have hv2 : Lib.HoldsBytes (wc.drewN md) (.slice (some ⟨q, 0, none⟩) 2 cp) [92, s[i]] := ⟨_, cp, rfl, (fun e => by cases e), fun a ha j x hx => by
          injection ha with ha
          subst ha
          match j, hx with
          | 0, hx => simp at hx; subst hx; exact d3
          | 1, hx => simp at hx; subst hx; exact d4
          | j + 2, hx => simp at hx⟩
        have HV := Lib.hid hv2
        have HES := Lib.hid hes
        have hj0 : ((escM (s.take i)).length : Int) < (escM s).length := by omega
        clear hes hlen d1 hv2 d3 d4
        go_wp2_with (fail)
        obtain ⟨W3, hr, hB3⟩ := Lib.copy_part (P := Tryz.prog) (wc.drewN md) wr.drew wc.heap.size (escM s).length (escM (s.take i)) [92, s[i]] (.slice (some ⟨q, 0, none⟩) 2 cp) 37 3 5 Tryz.underlying37 rfl (Nat.le_refl _) (Buf.keep HB.out hsz (Below.refl _ _).drew) HV.out hlen'
        rw [← HES.out] at hB3
        have HB3 := Lib.hid hB3
        have hsz3 : wc.heap.size < W3.heap.size := by
          obtain ⟨v0, hv0⟩ := Option.isSome_iff_exists.1 (hB3.there 0 (by omega))
          exact World.block_lt_of_cell? _ _ hv0
        clear hB3
        go_region
        go_wp2_with (fail)
        go_roundw
        case rel => exact ⟨i + 1, by omega, by go_num, by rw [HES.out, List.length_append]; go_num, HB3, hsz3⟩
        case measure => simp [intOf]; omega
      | false =>
        have d1 := HT.out.cellNo s[i] hkey
        have d2 := HB.out.below.cell (World.block_lt_of_cell? _ _ d1) |>.trans d1
        have hec : escC s[i] = [s[i]] := by unfold escC; rw [hkey]; rfl
        rw [hec] at hes
        rw [hes, List.length_append] at hlen
        have hlen' : (escM (s.take i)).length + 1 ≤ (escM s).length := hlen
        have hnq : ∀ W, (Go.binOp .neq 37 (.slice none 0 0) (.slice none 0 0)).run Tryz.prog W = .ok (.bool false) W := fun _ => rfl
        obtain ⟨v0, hv0⟩ := Option.isSome_iff_exists.1 (HB.out.there (escM (s.take i)).length (by omega))
        have hf0 := HB.out.free (escM (s.take i)).length (by omega)
        have HB2 := Lib.hid (Buf.put HB.out s[i] (by omega))
        have hj0 : ((escM (s.take i)).length : Int) < (escM s).length := by omega
        rw [← hes] at HB2
        have HES := Lib.hid hes
        clear hes hlen d1
        go_wp2_with (fail)
        go_roundw
        case rel => exact ⟨i + 1, by omega, by go_num, by rw [HES.out, List.length_append]; go_num, HB2, by simpa using hsz⟩
        case measure => simp [intOf]; omega
    · have hi' : i = s.length := by omega
      subst hi'
      rw [List.take_length] at HB ⊢
      have hcv := Buf.text (P := Tryz.prog) 37 5 9 Tryz.underlying37 Tryz.underlying5 Tryz.underlying9 HB.out
      go_wp2_with (fail)
      go_ret
      exact ⟨rfl, (below_drewN (Below.refl _ _) md).trans HB.out.below⟩
end Go.Proofs.YtgppfcaghjbjmaaGreatDoor
end

/- glob.Literal. -/
section
set_option linter.unusedVariables false
namespace Go.Proofs.YtgppfcaghjbjmaaGreatDoor
open Go.RowKit Plain

set_option maxRecDepth 100000 in
set_option maxHeartbeats 1600000 in
theorem rep_Replace (b d : Nat) (D : Option Addr) (s : List UInt8) (w : World) (hl : s.length ≤ 4096) (hb : w.heap[b]? = some (.cells (repRow 0 0 .nilIface (.slice D 8 d)) 63 (0, 0))) (hR : Reads w 1 D 8 (strs litArgs)) (hD : ∀ ad, D = some ad → ad.block ≠ b) :
    Calls Tryz.prog 19 #[.pointer (some ⟨b, 0, none⟩), .string ⟨s.toArray⟩] w fun e w' => e = .returned (.string ⟨(escM s).toArray⟩) ∧ Below b w w' := by
  have hlt : b < w.heap.size := (Array.getElem?_eq_some_iff.1 hb).1
  have hmf : ∀ (fn : Fn) (first cap : Array Value) (w : World), (Instr.makeFunc fn first cap).run Tryz.prog w = .ok (.func fn first cap) w := fun _ _ _ _ => rfl
  have HC := Lib.hid (do_lit b d D w hb hR hD)
  clear hb hR hD
  go_enter Tryz.func19, Tryz.ntmps19
  go_wp2_with (go_at_call 35; refine HC.out.mono ?_; rintro e w2 ⟨rfl, g, hT, h3, hbl⟩; have HT := Lib.hid (And.intro hT hbl); have HR := Lib.hid (bsr_Replace w.heap.size g s w2 hT hl); clear hT hbl)
  go_wp2_with (go_at_call 144; refine HR.out.mono ?_; rintro e w3 ⟨rfl, hb3⟩)
  go_ret
  exact ⟨rfl, HT.out.2.trans (hb3.mono (by have := HT.out.2.size; omega))⟩

def litP (s : List UInt8) : List UInt8 := if pathOK s then escM s else []

theorem reads_lit8 (w : World) : Reads (w.alloc (.cells (strs litArgs).toArray 9)) 1 (some ⟨w.heap.size, 0, none⟩) 8 (strs litArgs) := by
  refine ⟨rfl, fun _ => ⟨_, rfl, fun j u hu => ?_⟩⟩
  have := cell_of_row _ _ j _ _ _ (heap_alloc_new w (.cells (strs litArgs).toArray 9))
  have e : ((⟨w.heap.size, 0, none⟩ : Addr).add j) = ⟨w.heap.size, j, none⟩ := by
    unfold Addr.add
    by_cases h : j = 0
    · rw [if_pos h, h]
    · rw [if_neg h]; simp
  rw [e, this]
  simpa using hu

set_option maxRecDepth 100000 in
set_option maxHeartbeats 1600000 in
theorem Literal_any (s : List UInt8) (w : World) (hT : Tabs w) : Calls Tryz.prog 8 #[.string ⟨s.toArray⟩] w (Ret w (.string ⟨(litP s).toArray⟩)) := by
  have HP := Lib.hid (Path_any s w hT)
  unfold litP
  clear hT
  cases hp : pathOK s with
  | false =>
    rw [hp] at HP
    rw [if_neg (by simp)]
    go_enter Tryz.func8, Tryz.ntmps8
    go_wp2_with (go_at_call 17; refine HP.out.mono ?_; rintro e w1 ⟨rfl, hb1⟩)
    go_ret
    exact ⟨rfl, hb1⟩
  | true =>
    have hl : s.length ≤ 4096 := by
      by_cases h : 400 < s.length
      · rw [pathOK_long h] at hp; cases hp
      · omega
    rw [hp] at HP
    rw [if_pos rfl]
    have HL := Lib.hid hl
    clear hp hl
    go_enter Tryz.func8, Tryz.ntmps8
    go_wp2_with (first | (go_at_call 17; refine HP.out.mono ?_; rintro e w1 ⟨rfl, hb1⟩; have HB1 := Lib.hid hb1; have HR1 := Lib.hid (reads_lit8 w1); clear hb1) | (go_at_call 18; refine (NewReplacer_lit _ _ _ HR1.out).mono ?_; rintro e w2 ⟨b, d, D, rfl, hbs, hrow, hR2, hD2, hb2⟩; have H2 := Lib.hid (And.intro hbs (And.intro hrow (And.intro hR2 (And.intro hD2 hb2)))); clear hbs hrow hR2 hb2 hD2) | (go_at_call 19; refine (rep_Replace b d D s _ HL.out H2.out.2.1 H2.out.2.2.1 (fun ad e h => by have := H2.out.2.2.2.1 ad e; omega)).mono ?_; rintro e w3 ⟨rfl, hb3⟩))
    have hsz := H2.out.1
    simp at hsz
    go_ret
    exact ⟨rfl, (HB1.out.trans (((Below.refl _ w1).alloc (Nat.le_refl _) _).mono HB1.out.size)).trans ((H2.out.2.2.2.2.mono (by simp; have := HB1.out.size; omega)).trans (hb3.mono (by have := HB1.out.size; omega)))⟩
end Go.Proofs.YtgppfcaghjbjmaaGreatDoor
end

/- hawserref02.Literal. -/
section
set_option linter.unusedVariables false
namespace Go.Proofs.YtgppfcaghjbjmaaGreatDoor
open Go.RowKit Plain

def litR (s : List UInt8) : List UInt8 := if pathOK s then escM s else []
theorem info_u8F : (Tryz.prog.info? 5).map (fun i => (i.zero, i.size, i.bytes)) = some (some (.int .u8 0), 1, 1) := by kernel_rfl

theorem cell_one (w : World) (u : Value) (e : TypeId) : (w.alloc (.cells #[u] e)).cell? ⟨w.heap.size, 0, none⟩ = some u := (cell_of_row _ _ 0 _ _ _ (heap_alloc_new w _)).trans rfl
def is8 (c : UInt8) (k : Int) (b : Bool) : Prop := ((c.toNat : Int) == k) = b
theorem keyCases (c : UInt8) (h : isKey c = true) : (is8 c 42 true) ∨ (is8 c 42 false ∧ is8 c 63 true) ∨ (is8 c 42 false ∧ is8 c 63 false ∧ is8 c 91 true) ∨ (is8 c 42 false ∧ is8 c 63 false ∧ is8 c 91 false ∧ is8 c 92 true) := by
  unfold isKey at h
  simp only [Bool.or_eq_true, beq_iff_eq] at h
  unfold is8
  rcases h with ((rfl | rfl) | rfl) | rfl
  · exact .inr (.inr (.inr ⟨rfl, rfl, rfl, rfl⟩))
  · exact .inr (.inr (.inl ⟨rfl, rfl, rfl⟩))
  · exact .inr (.inl ⟨rfl, rfl⟩)
  · exact .inl rfl
theorem noKey (c : UInt8) (h : isKey c = false) : is8 c 42 false ∧ is8 c 63 false ∧ is8 c 91 false ∧ is8 c 92 false := by
  unfold isKey at h
  simp only [Bool.or_eq_false_iff, beq_eq_false_iff_ne] at h
  obtain ⟨⟨⟨h1, h2⟩, h3⟩, h4⟩ := h
  have key : ∀ k : UInt8, c ≠ k → ((c.toNat : Int) == (k.toNat : Int)) = false := fun k hk => by
    rw [beq_eq_false_iff_ne]
    intro e
    exact hk (UInt8.toNat_inj.1 (by omega))
  exact ⟨key 42 h4, key 63 h3, key 91 h2, key 92 h1⟩

set_option maxRecDepth 100000 in
set_option maxHeartbeats 1600000 in
theorem Literal_ref (s : List UInt8) (w : World) (hs : s.length ≤ 8796093022200) : Calls Tryz.prog 9 #[.string ⟨s.toArray⟩] w (Ret w (.string ⟨(litR s).toArray⟩)) := by
  have HP := Lib.hid (Path_ref s w hs)
  unfold litR
  cases hp : pathOK s with
  | false =>
    rw [hp] at HP
    rw [if_neg (by simp)]
    go_enter Tryz.func9, Tryz.ntmps9
    go_wp2_with (go_at_call 10; refine HP.out.mono ?_; rintro e w1 ⟨rfl, hb1⟩)
    go_ret
    exact ⟨rfl, hb1⟩
  | true =>
    rw [hp] at HP
    rw [if_pos rfl]
    obtain ⟨i0, hi0, hz0, hz1, hz2⟩ := info_parts info_u8F
    have HI0 := Lib.hid hi0
    clear hi0
    go_enter Tryz.func9, Tryz.ntmps9
    go_wp2_with (go_at_call 10; refine HP.out.mono ?_; rintro e w1 ⟨rfl, hb1⟩; have HB1 := Lib.hid hb1; clear hb1)
    go_loopw [3, 4] (fun t3 t4 W => ∃ i : Nat, i ≤ s.length ∧ t4 = .int .i64 (i : Nat) ∧ Hid (OwnM W w1.heap.size 5 t3 (bytesV (escM (s.take i)))) ∧ Hid (Below w1.heap.size w1 W)) (fun _ t4 _ => s.length - (intOf t4).toNat)
    case atStart => exact ⟨0, by omega, rfl, Lib.hid (.inl ⟨rfl, rfl⟩), Lib.hid (Below.refl _ _)⟩
    case round =>
      obtain ⟨i, hi, rfl, HO, HB⟩ := hrel
      by_cases hlt : i < s.length
      · have hk0 : (0 : Int) ≤ i := by omega
        have hki : (i : Int) < s.length := by omega
        have hes := escM_take hlt
        have hel : (escM (s.take i)).length ≤ 131072 := by
          have h4 : s.length ≤ 400 := by
            by_cases h : 400 < s.length
            · rw [pathOK_long h] at hp; cases hp
            · omega
          have := countP_le s i
          rw [escM_len]
          simp
          omega
        have HM : Hid ((bytesV (escM (s.take i))).length + 1 ≤ maxLen ∧ ((bytesV (escM (s.take i))).length + 1) * 1 ≤ 140737488355328) := Lib.hid ⟨by rw [bytesV_length]; unfold maxLen; omega, by rw [bytesV_length]; omega⟩
        have HM2 : Hid ((bytesV (escM (s.take i)) ++ [Value.int .u8 92]).length + 1 ≤ maxLen ∧ ((bytesV (escM (s.take i)) ++ [Value.int .u8 92]).length + 1) * 1 ≤ 140737488355328) := Lib.hid ⟨by rw [List.length_append, bytesV_length]; unfold maxLen; simp; omega, by rw [List.length_append, bytesV_length]; simp; omega⟩
        have HS : ∀ o, Hid (w1.heap.size ≤ (wr.alloc o).heap.size) := fun o => Lib.hid (Nat.le_trans HB.out.size (by simp))
        cases hkey : isKey s[i] with
        | true =>
          rcases keyCases s[i] hkey with h1 | ⟨h1, h2⟩ | ⟨h1, h2, h3⟩ | ⟨h1, h2, h3, h4⟩
          all_goals
            unfold is8 at *
            go_wp2_with (first | (at_builtin; refine wpList_append_m rfl _ _ 37 rfl i0 _ 1 Tryz.underlying37 HI0.out hz0 hz1 hz2 rfl rfl (HO.out.alloc _) (.int .u8 92) ⟨wr.heap.size, 0, none⟩ 1 rfl (cell_one _ _ _) rfl HM.out.1 HM.out.2 (HS _).out ?_; intro v5 w5 ho5 hg5; have HO5 := Lib.hid ho5; have HB5 := Lib.hid ((HB.out.alloc HB.out.size (.cells #[.int .u8 92] 5)).grown hg5 (by simp; have := HB.out.size; omega) (fun k hk => (HO.out.lt k hk).1)); clear ho5 hg5) | (at_builtin; refine wpList_append_m rfl _ _ 37 rfl i0 _ 1 Tryz.underlying37 HI0.out hz0 hz1 hz2 rfl rfl (HO5.out.alloc _) (.int .u8 (s[i].toNat : Int)) ⟨w5.heap.size, 0, none⟩ 1 rfl (cell_one _ _ _) rfl HM2.out.1 HM2.out.2 (Nat.le_trans HB5.out.size (by simp)) ?_; intro v6 w6 ho6 hg6; have HO6 := Lib.hid ho6; have HB6 := Lib.hid ((HB5.out.alloc HB5.out.size (.cells #[.int .u8 (s[i].toNat : Int)] 5)).grown hg6 (by simp; have := HB5.out.size; omega) (fun k hk => (HO5.out.lt k hk).1)); clear ho6 hg6))
            go_roundw
            case rel => exact ⟨i + 1, by omega, by go_num, by rw [hes, show escC s[i] = [92, s[i]] by unfold escC; rw [hkey]; rfl]; exact Lib.hid (by have := HO6.out; simpa [bytesV] using this), HB6⟩
            case measure => simp [intOf]; omega
        | false =>
          obtain ⟨h1, h2, h3, h4⟩ := noKey s[i] hkey
          unfold is8 at *
          go_wp2_with (at_builtin; refine wpList_append_m rfl _ _ 37 rfl i0 _ 1 Tryz.underlying37 HI0.out hz0 hz1 hz2 rfl rfl (HO.out.alloc _) (.int .u8 (s[i].toNat : Int)) ⟨wr.heap.size, 0, none⟩ 1 rfl (cell_one _ _ _) rfl HM.out.1 HM.out.2 (Nat.le_trans HB.out.size (by simp)) ?_; intro v6 w6 ho6 hg6; have HO6 := Lib.hid ho6; have HB6 := Lib.hid ((HB.out.alloc HB.out.size (.cells #[.int .u8 (s[i].toNat : Int)] 5)).grown hg6 (by simp; have := HB.out.size; omega) (fun k hk => (HO.out.lt k hk).1)); clear ho6 hg6)
          go_roundw
          case rel => exact ⟨i + 1, by omega, by go_num, by rw [hes, show escC s[i] = [s[i]] by unfold escC; rw [hkey]; rfl]; exact Lib.hid (by have := HO6.out; simpa [bytesV] using this), HB6⟩
          case measure => simp [intOf]; omega
      · have hi' : i = s.length := by omega
        subst hi'
        rw [List.take_length] at HO
        have hcv := HO.out.back (P := Tryz.prog) 37 9 Tryz.underlying37 Tryz.underlying5 Tryz.underlying9
        go_wp2_with (fail)
        go_ret
        exact ⟨rfl, HB1.out.trans (HB.out.mono HB1.out.size)⟩
end Go.Proofs.YtgppfcaghjbjmaaGreatDoor
end

/- The closing of a law's statement: whatever the law's arguments, it answers true and leaves old memory as it was. -/
section
namespace Go.Proofs.YtgppfcaghjbjmaaGreatDoor
open Go.ChangeShapes Go.WideShapes Go.ChangeAt Go.RowKit

theorem own : ownKnob Tryz.prog.godebug = none := by kernel_rfl
theorem laidOut : laidOutB Tryz.prog = true := by kernel_rfl

section
variable {H : Type} {enc : TypeId × Value → H} {P : Program}
theorem trodAll_below (hl : laidOutB P = true) {W W' : World} (hb : Below W.heap.size W W') : ∀ {ts : List TypeId} {vs : List Value} {ds : List (DataW H)} {ps : List MemPlace},
    DataW.TrodAll enc P W 0 (fun _ => true) true ts vs ds ps → (ts.all fun t => P.readableRec t && decide (t < P.types.size)) = true → (∀ x ∈ ps, x.block < W.heap.size) →
    DataW.TrodAll enc P W' 0 (fun b => decide (b < W.heap.size)) true ts vs ds ps
  | [], [], [], _, h, _, _ => h
  | t :: ts, v :: vs, d :: ds, ps, h, hr, hlt => by
    obtain ⟨p, q, h1, h2, rfl⟩ := h
    simp only [List.all_cons, Bool.and_eq_true, decide_eq_true_eq] at hr
    exact ⟨p, q, Below.trod hl hr.1.1 hr.1.2 h1 hb (fun x hx => hlt x (List.mem_append_left _ hx)), trodAll_below hl hb h2 (by simpa using hr.2) (fun x hx => hlt x (List.mem_append_right _ hx)), rfl⟩
  | [], [], _ :: _, _, h, _, _ => h.elim
  | [], _ :: _, _, _, h, _, _ => h.elim
  | _ :: _, [], _, _, h, _, _ => h.elim
  | _ :: _, _ :: _, [], _, h, _, _ => h.elim

theorem law_post {f : Func} {s : ChangeSpec} {W W' : World} {args : Array Value} {ds gs : List (DataW H)} {before : List MemPlace} {tb : TypeId}
    (hvars : s.vars = []) (hW : DataW.Whole enc P f.params.toList s.vars false W args.toList ds gs before)
    (hfn : s.fn H (ds ++ gs) = { results := [.lit (.bool true)], args := ds }) (hres : f.resultTypes = #[tb]) (htb : P.underlying tb = some .bool)
    (hread : (f.params.toList.all fun t => P.readableRec t && decide (t < P.types.size)) = true) (hl : laidOutB P = true) (hb : Below W.heap.size W W') :
    s.post enc P f false true false false W args (.bool true) W' := by
  have hW' := hW
  obtain ⟨p, q, hA, hV, hpq, hfz, hnd⟩ := hW
  refine ⟨ds, gs, before, [], p, [], hW', ?_, ?_, ?_, ?_, fun h => by cases h⟩
  · rw [hfn, hres]
    exact trodAll_mk1 (shut_bool htb _)
  · rw [hfn]
    exact trodAll_below hl hb hA hread (fun x hx => hW'.lt x (by rw [hpq]; exact List.mem_append_left _ hx))
  · rw [hfn, hvars]
    exact rfl
  · exact hb.frame _
end

end Go.Proofs.YtgppfcaghjbjmaaGreatDoor
end

/- Opening of arguments: lists of texts; what the bound of the second form gives. -/
section
namespace Go.Proofs.YtgppfcaghjbjmaaGreatDoor
open Go.ChangeShapes Go.WideShapes Go.ChangeAt Go.RowKit

section
variable {H : Type} {enc : TypeId × Value → H} {P : Program} {w : World} {base : Nat} {held : Bool}

theorem toList_mk (s : ByteArray) : (⟨s.data.toList.toArray⟩ : ByteArray) = s := by cases s; simp

/-- A []string among the arguments: the texts that it reads as. -/
theorem open_texts {r : Reach} {b0 : Nat} {t e : TypeId} {v : Value} {d : DataW H} {ps : List MemPlace} (ht : P.underlying t = some (.slice e)) (he : P.underlying e = some .string) (hc : P.cellsOf e = 1)
    (hval : Value.okWide P w r b0 t v) (hd : DataW.Trod enc P w base (fun _ => true) held t v d ps) :
    ∃ A c, ∃ l : List (List UInt8), v = .slice A l.length c ∧ l.length ≤ c ∧ c ≤ maxLen ∧ Reads w 1 A l.length (strs l) ∧ (∀ s ∈ l, s.length ≤ maxLen) ∧
      ((d = .nil ∧ l = []) ∨ ∃ sp, d = .slice (l.map fun s => .lit (.string s)) sp) := by
  obtain ⟨a0, len, cap, rfl⟩ := okWide_slice ht hval
  obtain ⟨fuel, hf⟩ := hd
  rcases open_strings ht he hc hf with ⟨hcs, hx⟩ | ⟨a, len', cap', ss, hcs, _, hl, hm, hz, hx, hcell, hws⟩
  · simp [Value.cells] at hcs
    obtain ⟨rfl, rfl, rfl⟩ := hcs
    simp only [Prod.mk.injEq] at hx
    exact ⟨none, 0, [], rfl, Nat.le_refl _, Nat.zero_le _, Reads.nil _ _ _, by simp, .inl ⟨hx.1, rfl⟩⟩
  · simp [Value.cells] at hcs
    obtain ⟨rfl, rfl, rfl⟩ := hcs
    simp only [if_true] at hz
    simp only [Prod.mk.injEq] at hx
    have hlen : ((ss.take len).map fun s => s.data.toList).length = len := by simp; omega
    refine ⟨some a, cap, (ss.take len).map fun s => s.data.toList, by rw [hlen], by omega, hm, ⟨by rw [strs_length, Nat.mul_one], fun _ => ⟨a, rfl, fun j u hu => ?_⟩⟩, ?_, .inr ⟨_, by rw [hx.1, List.map_map]; rfl⟩⟩
    · have hj : j < len := by
        have := (List.getElem?_eq_some_iff.1 hu).1
        rw [strs_length, hlen] at this
        exact this
      rw [hcell j (by omega)]
      have hjs : j < ss.length := by omega
      rw [strs, List.map_map, List.getElem?_map, List.getElem?_take_of_lt hj, List.getElem?_eq_getElem hjs] at hu
      simp only [Option.map_some, Option.some.injEq] at hu
      rw [← hu]
      simp [strV, List.getD, hjs]
    · intro s hs
      simp only [List.mem_map] at hs
      obtain ⟨b, hb, rfl⟩ := hs
      have := hws b (List.mem_of_mem_take hb)
      simpa using this

/-! ### The bound of the second form -/
theorem bulk_one (d : DataW H) : 1 ≤ Rows.uptoBulk d := by
  cases d with
  | lit l => cases l <;> simp [Rows.uptoBulk]
  | nil => simp [Rows.uptoBulk]
  | ptr d => simp [Rows.uptoBulk]
  | slice elems spare => simp [Rows.uptoBulk]
  | agg parts => simp [Rows.uptoBulk]
  | iface t d => simp [Rows.uptoBulk]
  | map entries => simp [Rows.uptoBulk]
  | held h => simp [Rows.uptoBulk]

theorem bulk_bound {l : List (DataW H)} (hk : Rows.uptoSmall H l = true) : Rows.uptoBulkAll l ≤ 1048576 := of_decide_eq_true hk

/-- the letters and places of a list of texts -/
def weight (l : List (List UInt8)) : Nat := (l.map fun s => s.length + 1).sum
theorem bulk_texts (l : List (List UInt8)) : Rows.uptoBulkAll (l.map fun s => (DataW.lit (.string s) : DataW H)) = weight l := by
  unfold weight
  induction l with
  | nil => simp [Rows.uptoBulkAll]
  | cons s l ih => simp only [List.map_cons, Rows.uptoBulkAll, ih, Rows.uptoBulk, List.sum_cons]
theorem weight_le_bulk {l : List (List UInt8)} {d : DataW H} (h : (d = .nil ∧ l = []) ∨ ∃ sp, d = .slice (l.map fun s => .lit (.string s)) sp) : weight l ≤ Rows.uptoBulk d := by
  rcases h with ⟨rfl, rfl⟩ | ⟨sp, rfl⟩
  · simp [weight]
  · simp only [Rows.uptoBulk, bulk_texts]; omega
theorem weight_length (l : List (List UInt8)) : l.length ≤ weight l := by
  unfold weight
  induction l with
  | nil => simp
  | cons s l ih => simp only [List.length_cons, List.map_cons, List.sum_cons]; omega
theorem weight_mem {l : List (List UInt8)} {s : List UInt8} (h : s ∈ l) : s.length + 1 ≤ weight l := by
  unfold weight
  induction l with
  | nil => cases h
  | cons t l ih =>
    simp only [List.map_cons, List.sum_cons]
    rcases List.mem_cons.1 h with rfl | h
    · omega
    · have := ih h; omega
end

end Go.Proofs.YtgppfcaghjbjmaaGreatDoor
end

/- A cell that reads at a string's type. -/
section
namespace Go.Proofs.YtgppfcaghjbjmaaGreatDoor

section
variable {H : Type} {enc : TypeId × Value → H} {P : Program} {w : World} {base : Nat} {spare : Nat → Bool} {held : Bool} {t : TypeId}
/-- A cell that reads at a string's type. -/
theorem trod_str {fuel : Nat} {c : Value} {y : DataW H × List MemPlace} (ht : P.underlying t = some .string) (h : DataW.trod enc P w base spare held fuel t [c] = some y) :
    ∃ s : List UInt8, c = .string ⟨s.toArray⟩ ∧ y = (.lit (.string s), []) ∧ s.length ≤ maxLen := by
  obtain ⟨b, hb, rfl, hl⟩ := DataW.trod_string ht h
  simp only [List.cons.injEq, and_true] at hb
  subst hb
  exact ⟨b.data.toList, by cases b; simp, rfl, by simpa only [ByteArray.size, Array.length_toList] using hl⟩
end
end Go.Proofs.YtgppfcaghjbjmaaGreatDoor
end

/- The frame of a card: a world that holds the listed tables; no parameter wants a stand-in. -/
section
namespace Go.Proofs.YtgppfcaghjbjmaaGreatDoor
open Go.ChangeShapes Go.WideShapes Go.ChangeAt Go.RowKit

/-- A table's cells, off its datum. -/
def lits0 : DataW Unit → List Value
  | .lit (.int k n) => [.int k n]
  | _ => []
def lits1 : DataW Unit → List Value
  | .agg ps => ps.flatMap lits0
  | d => lits0 d
def lits2 : DataW Unit → List Value
  | .agg ps => ps.flatMap lits1
  | d => lits1 d
def layAt (h : Array Obj) (g : Nat) (d : DataW Unit) : Array Obj := h.modify g fun
  | .cells _ t frozen => .cells (lits2 d).toArray t frozen
  | o => o
/-- The settled world, the tables laid. -/
noncomputable def laidWorld (os : Os) : World :=
  { World.holding Tryz.prog os ⟨#[], #[], []⟩ with heap := layAt (layAt (World.holding Tryz.prog os ⟨#[], #[], []⟩).heap 1 Rows.laid_unicode_utf8_acceptRanges) 0 Rows.laid_unicode_utf8_first }

theorem card_plain {b : Bool} {name : String} {f0 : FuncId} {fn0 : Func} (hf0 : Tryz.pinned.checked.prog.funcNamed name = some f0) (hfn0 : Tryz.pinned.checked.prog.funcs[f0]? = some fn0) (hl : Tryz.pinned.checked.prog.looks [] = b)
    (ha : (fn0.params.toList.all fun t => !Tryz.pinned.checked.prog.wantsStandIn t) = true) (f : FuncId) (fn : Func) (hf : Tryz.pinned.checked.prog.funcNamed name = some f) (hfn : Tryz.pinned.checked.prog.funcs[f]? = some fn) :
    b = Tryz.pinned.checked.prog.looks [] ∧ ∀ (j : Nat) t, fn.params[j]? = some t → Tryz.pinned.checked.prog.wantsStandIn t = false := by
  obtain rfl : f0 = f := Option.some.inj (hf0.symm.trans hf)
  obtain rfl : fn0 = fn := Option.some.inj (hfn0.symm.trans hfn)
  refine ⟨hl.symm, fun j t ht => ?_⟩
  have hm : t ∈ fn0.params.toList := by
    rw [← Array.getElem?_toList] at ht
    exact List.mem_of_getElem? ht
  have := List.all_eq_true.1 ha t hm
  simpa using this

end Go.Proofs.YtgppfcaghjbjmaaGreatDoor
end

/- What the statements of patterns and path texts share. -/
section

end
