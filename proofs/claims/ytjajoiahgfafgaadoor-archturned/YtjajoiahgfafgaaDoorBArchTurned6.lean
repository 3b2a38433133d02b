/- Texts joined: Arch1, Arch2, BuilderW, QuietTail. -/
import Derived.Shelf.Strings.SlTrimAscii
import Derived.Test.YtjajoiahgfafgaaDoorBArchTurned4
import Derived.Test.YtjajoiahgfafgaaDoorBArchTurned5
import Derived.Test.YtjajoiahgfafgaaDoorBArchTurned3
import Derived.Test.YtjajoiahgfafgaaDoorBCodeBase1
import Derived.StillTail
import Derived.Deep.QuietTactic
set_option linter.unusedSimpArgs false
set_option linter.unusedVariables false

/- arch: digits, IsBare, Check. -/
section
set_option linter.unusedVariables false
namespace Go.Proofs.YtjajoiahgfafgaaDoor
open Go.RowKit Plain

namespace Plain
theorem dropWhile_nil {p : UInt8 → Bool} : ∀ l : List UInt8, l.dropWhile p = [] ↔ l.all p = true
  | [] => by simp
  | x :: l => by
    rw [List.dropWhile_cons]
    cases h : p x with
    | true => rw [if_pos rfl, List.all_cons, h, Bool.true_and]; exact dropWhile_nil l
    | false => simp [h]
theorem takeWhile_dropWhile_all {p : UInt8 → Bool} (l : List UInt8) (h : (l.dropWhile p).all p = true) : l.all p = true := by
  have h1 := List.takeWhile_append_dropWhile (p := p) (l := l)
  rw [← h1, List.all_append, h, Bool.and_true]
  rw [List.all_eq_true]
  intro x hx
  exact List.all_eq_true.1 (List.all_takeWhile (p := p) (l := l)) x hx
theorem trim_nil (l cs : List UInt8) : Lib.trimS l cs = [] ↔ l.all (fun c => cs.contains c) = true := by
  unfold Lib.trimS Lib.trimLeftS Lib.trimRightS
  rw [dropWhile_nil, List.all_reverse]
  constructor
  · intro h
    have := takeWhile_dropWhile_all _ h
    rwa [List.all_reverse] at this
  · intro h
    have : l.reverse.dropWhile (fun c => cs.contains c) = [] := by rw [dropWhile_nil, List.all_reverse]; exact h
    rw [this]; rfl
end Plain

theorem Trim_any (s cs : List UInt8) (w : World) (hs : s.length ≤ 9223372036854775807) (hc : cs.length < 4294967281) (ha : cs.all (fun b => decide (b.toNat < 128)) = true) :
    Calls Tryd.prog 47 #[.string ⟨s.toArray⟩, .string ⟨cs.toArray⟩] w (Ret w (.string ⟨(Lib.trimS s cs).toArray⟩)) :=
  Any.strings_Trim_laid Tryd.lays160 (by kernel_rfl) ⟨s.toArray⟩ ⟨cs.toArray⟩ w (by simpa [ByteArray.size] using hs) (by simpa [ByteArray.size] using hc) (ascii_of_all ha)

set_option maxHeartbeats 1000000 in
set_option maxRecDepth 100000 in
theorem digits_any (s : List UInt8) (w : World) (hs : s.length ≤ 9223372036854775807) : Calls Tryd.prog 40 #[.string ⟨s.toArray⟩] w (Ret w (.bool (digitsS s))) := by
  have HT := Lib.hid (fun W => Trim_any s digs W hs (by decide) (by decide))
  unfold digitsS
  have HN : Hid ((Lib.trimS s digs).isEmpty = s.all (fun c => digs.contains c)) := Lib.hid (by rw [Bool.eq_iff_iff, ← trim_nil s digs, List.isEmpty_iff])
  by_cases h : s.length = 64
  · have h1 : ((s.length : Int) == 64) = true := by rw [beq_iff_eq]; omega
    have h2 : (s.length == 64) = true := by rw [beq_iff_eq]; exact h
    rw [h2, Bool.true_and]
    clear h h2
    go_enter Tryd.func40, Tryd.ntmps40
    go_wp2_with (go_at_call 47; refine (HT.out _).mono ?_; rintro e w1 ⟨rfl, hw1⟩)
    go_ret
    exact ⟨by rw [← HN.out]; rfl, hw1⟩
  · have h1 : ((s.length : Int) == 64) = false := by rw [beq_eq_false_iff_ne]; omega
    have h2 : (s.length == 64) = false := by rw [beq_eq_false_iff_ne]; exact h
    rw [h2, Bool.false_and]
    clear h h2
    go_enter Tryd.func40, Tryd.ntmps40
    go_wp2_with (fail)
    go_ret
    exact ⟨rfl, Below.refl _ _⟩

set_option maxHeartbeats 1000000 in
set_option maxRecDepth 100000 in
theorem odd_any (n : Nd) (w : World) (hd : n.data.length ≤ 9223372036854775807) : Calls Tryd.prog 39 #[.agg (ndV n).toArray] w (Ret w (.bool (!bareN n))) := by
  obtain ⟨p, k, d, m⟩ := n
  unfold bareN ndV
  simp only at hd ⊢
  have HD := Lib.hid (fun W => digits_any d W hd)
  by_cases hk : k = 2
  · subst hk
    go_enter Tryd.func39, Tryd.ntmps39
    go_wp2_with (fail)
    go_ret
    exact ⟨rfl, (Below.refl _ _).alloc (Nat.le_refl _) _⟩
  · have hk2 : (k == 2) = false := by simpa using hk
    rw [hk2, Bool.false_or]
    generalize digitsS d = b at *
    go_enter Tryd.func39, Tryd.ntmps39
    go_wp2_with (go_at_call 40; refine (HD.out _).mono ?_; rintro e w1 ⟨rfl, hw1⟩)
    go_ret
    exact ⟨by first | rfl | simp [hk], ((Below.refl _ _).alloc (Nat.le_refl _) _).trans (hw1.mono (by simp))⟩

namespace Plain
theorem any_at {α : Type} [Inhabited α] {p : α → Bool} {l : List α} {i : Nat} (h : i < l.length) : (l.drop i).any p = (p (l.getD i default) || (l.drop (i + 1)).any p) := by
  rw [List.drop_eq_getElem_cons h, List.any_cons, List.getD_eq_getElem?_getD, List.getElem?_eq_getElem h, Option.getD_some]
theorem any_end {α : Type} {p : α → Bool} {l : List α} : (l.drop l.length).any p = false := by simp
theorem all_not_any {α : Type} {p : α → Bool} (l : List α) : l.all p = !l.any (fun x => !p x) := by
  rw [Bool.eq_iff_iff]; simp
end Plain
/-- a stamp's cells -/
def stV (s : Stp) : List Value := [.int .i64 s.ino, .int .i64 s.size, .int .i64 s.time]
theorem stps_at {w : World} {A : Option Addr} {t : List Stp} (h : IsRows w 3 A (t.map stV)) {i : Nat} (hi : i < t.length) : ∃ ad, A = some ad ∧ ∀ j u, (stV (t.getD i default))[j]? = some u → w.cell? (ad.add (i * 3 + j)) = some u := by
  obtain ⟨ad, e, hc⟩ := h i (by simpa using hi)
  refine ⟨ad, e, fun j u hu => hc j u ?_⟩
  rw [List.getElem_map]
  rw [List.getD_eq_getElem?_getD, List.getElem?_eq_getElem hi, Option.getD_some] at hu
  exact hu
theorem stp_cells {w : World} {A : Option Addr} {t : List Stp} (h : IsRows w 3 A (t.map stV)) {i : Nat} (hi : i < t.length) : ∃ ad, A = some ad ∧ w.cell? (ad.add (i * 3)) = some (.int .i64 (t.getD i default).ino) ∧
    w.cell? ⟨(ad.add (i * 3)).block, (ad.add (i * 3)).off + 1, none⟩ = some (.int .i64 (t.getD i default).size) ∧ w.cell? ⟨(ad.add (i * 3)).block, (ad.add (i * 3)).off + 2, none⟩ = some (.int .i64 (t.getD i default).time) := by
  obtain ⟨ad, e, hc⟩ := stps_at h hi
  have key : ∀ j u, j ≠ 0 → (stV (t.getD i default))[j]? = some u → w.cell? ⟨(ad.add (i * 3)).block, (ad.add (i * 3)).off + j, none⟩ = some u := fun j u hj hu => by
    have := hc j u hu
    rw [← add_of_add] at this
    conv at this => lhs; rw [Addr.add, if_neg hj]
    exact this
  exact ⟨ad, e, hc 0 _ rfl, key 1 _ (by omega) rfl, key 2 _ (by omega) rfl⟩

set_option maxHeartbeats 1000000 in
set_option maxRecDepth 100000 in
theorem oddS_any (s : Stp) (w : World) : Calls Tryd.prog 24 #[.agg (stV s).toArray] w (Ret w (.bool (!stampOK s))) := by
  obtain ⟨i, z, t⟩ := s
  unfold stampOK stV
  simp only
  have hb := ((Below.refl w.heap.size w).alloc (Nat.le_refl _) (.cells #[.int .i64 i, .int .i64 z, .int .i64 t] 46))
  have e : ∀ n : Int, decide (0 ≤ n) = !decide (n < 0) := fun n => by rw [Bool.eq_iff_iff]; simp
  rw [e, e, e]
  have HE := Lib.hid e
  clear e
  cases h1 : decide (i < 0) <;> cases h2 : decide (z < 0) <;> cases h3 : decide (t < 0)
  all_goals
    go_enter Tryd.func24, Tryd.ntmps24
    go_wp2_with (fail)
    go_ret
    exact ⟨rfl, hb⟩

set_option maxHeartbeats 1000000 in
set_option maxRecDepth 100000 in
theorem indexNode_any (t : List Nd) (A : Option Addr) (c : Nat) (w : World) (hR : IsRows w 4 A (t.map ndV)) (hl : t.length ≤ 9223372036854775807) (hd : ∀ n ∈ t, n.data.length ≤ 9223372036854775807) :
    Calls Tryd.prog 53 #[.slice A t.length c, .func (.func 39) #[] #[]] w fun e w' => ∃ r : Int, e = .returned (.int .i64 r) ∧ decide (0 ≤ r) = t.any (fun n => !bareN n) ∧ Below w.heap.size w w' := by
  have HR := Lib.hid (fun W (h : Below w.heap.size w W) => hR.below h)
  have HO := Lib.hid (fun n (h : n ∈ t) W => odd_any n W (hd n h))
  obtain ⟨res, hres⟩ : ∃ r, t.any (fun n => !bareN n) = r := ⟨_, rfl⟩
  have HRES := Lib.hid (show (t.drop 0).any (fun n => !bareN n) = res from hres)
  rw [hres]
  clear hR hres hd
  go_enter Tryd.func53, Tryd.ntmps53
  go_wp2_with (fail)
  go_loopw [8] (fun t8 W => ∃ (i : Nat), i ≤ t.length ∧ t8 = .int .i64 i ∧ Hid ((t.drop i).any (fun n => !bareN n) = res) ∧ Hid (Below w.heap.size w W)) (fun t8 _ => t.length - (intOf t8).toNat)
  case atStart => exact ⟨0, by omega, rfl, HRES, Lib.hid (Below.refl _ _)⟩
  case round =>
    clear HRES
    obtain ⟨i, hi, rfl, HE, HW⟩ := hrel
    have i0 : (0 : Int) ≤ i := by omega
    by_cases hlt : i < t.length
    · have i1 : (i : Int) < t.length := by omega
      have e1 : IntKind.i64.wrap ((i : Int) + 1) = (i : Int) + 1 := IntWalk.i64_in _ (by omega)
      obtain ⟨ad, rfl, c0, c1, c2, c3⟩ := node_cells (HR.out _ HW.out) hlt
      have hat := any_at (p := fun n => !bareN n) hlt
      rw [HE.out] at hat
      have HC := Lib.hid (HO.out (t.getD i default) (mem_getD hlt))
      generalize t.getD i default = x at *
      cases hb : (!bareN x) with
      | true =>
        rw [hb] at hat HC
        have HRF := Lib.hid (show res = true by rw [hat, Bool.true_or])
        clear hat hb
        go_wp2_with (go_at_call 39; refine (HC.out _).mono ?_; rintro e w1 ⟨rfl, hw1⟩)
        go_ret
        exact ⟨_, rfl, by rw [HRF.out]; exact decide_eq_true i0, HW.out.trans (hw1.mono HW.out.size)⟩
      | false =>
        rw [hb] at hat HC
        have HRF := Lib.hid (show (t.drop (i + 1)).any (fun n => !bareN n) = res by rw [hat, Bool.false_or])
        clear hat hb
        go_wp2_with (go_at_call 39; refine (HC.out _).mono ?_; rintro e w1 ⟨rfl, hw1⟩)
        go_roundw
        case rel => exact ⟨i + 1, by omega, by go_num, HRF, Lib.hid (HW.out.trans (hw1.mono HW.out.size))⟩
        case measure => simp [intOf]; omega
    · obtain rfl : i = t.length := by omega
      have i1 : decide ((t.length : Int) < (t.length : Int)) = false := by rw [decide_eq_false_iff_not]; omega
      have HE2 := Lib.hid (show res = false by rw [← HE.out, any_end])
      go_wp2_with (fail)
      go_ret
      exact ⟨_, rfl, by rw [HE2.out]; rfl, HW.out⟩

set_option maxHeartbeats 1000000 in
set_option maxRecDepth 100000 in
theorem containsNode_any (t : List Nd) (A : Option Addr) (c : Nat) (w : World) (hR : IsRows w 4 A (t.map ndV)) (hl : t.length ≤ 9223372036854775807) (hd : ∀ n ∈ t, n.data.length ≤ 9223372036854775807) :
    Calls Tryd.prog 42 #[.slice A t.length c, .func (.func 39) #[] #[]] w (Ret w (.bool (t.any (fun n => !bareN n)))) := by
  have HI := Lib.hid (indexNode_any t A c w hR hl hd)
  generalize t.any (fun n => !bareN n) = res at *
  clear hR
  go_enter Tryd.func42, Tryd.ntmps42
  go_wp2_with (go_at_call 53; refine HI.out.mono ?_; rintro e w1 ⟨r, rfl, hr, hw1⟩)
  go_ret
  exact ⟨by rw [← hr]; rfl, hw1⟩

set_option maxHeartbeats 1000000 in
set_option maxRecDepth 100000 in
theorem indexStamp_any (t : List Stp) (A : Option Addr) (c : Nat) (w : World) (hR : IsRows w 3 A (t.map stV)) (hl : t.length ≤ 9223372036854775807) :
    Calls Tryd.prog 43 #[.slice A t.length c, .func (.func 24) #[] #[]] w fun e w' => ∃ r : Int, e = .returned (.int .i64 r) ∧ decide (0 ≤ r) = t.any (fun n => !stampOK n) ∧ Below w.heap.size w w' := by
  have HR := Lib.hid (fun W (h : Below w.heap.size w W) => hR.below h)
  have HO := Lib.hid (fun s W => oddS_any s W)
  obtain ⟨res, hres⟩ : ∃ r, t.any (fun n => !stampOK n) = r := ⟨_, rfl⟩
  have HRES := Lib.hid (show (t.drop 0).any (fun n => !stampOK n) = res from hres)
  rw [hres]
  clear hR hres
  go_enter Tryd.func43, Tryd.ntmps43
  go_wp2_with (fail)
  go_loopw [8] (fun t8 W => ∃ (i : Nat), i ≤ t.length ∧ t8 = .int .i64 i ∧ Hid ((t.drop i).any (fun n => !stampOK n) = res) ∧ Hid (Below w.heap.size w W)) (fun t8 _ => t.length - (intOf t8).toNat)
  case atStart => exact ⟨0, by omega, rfl, HRES, Lib.hid (Below.refl _ _)⟩
  case round =>
    clear HRES
    obtain ⟨i, hi, rfl, HE, HW⟩ := hrel
    have i0 : (0 : Int) ≤ i := by omega
    by_cases hlt : i < t.length
    · have i1 : (i : Int) < t.length := by omega
      have e1 : IntKind.i64.wrap ((i : Int) + 1) = (i : Int) + 1 := IntWalk.i64_in _ (by omega)
      obtain ⟨ad, rfl, c0, c1, c2⟩ := stp_cells (HR.out _ HW.out) hlt
      have hat := any_at (p := fun n => !stampOK n) hlt
      rw [HE.out] at hat
      have HC := Lib.hid (HO.out (t.getD i default))
      generalize t.getD i default = x at *
      cases hb : (!stampOK x) with
      | true =>
        rw [hb] at hat HC
        have HRF := Lib.hid (show res = true by rw [hat, Bool.true_or])
        clear hat hb
        go_wp2_with (go_at_call 24; refine (HC.out _).mono ?_; rintro e w1 ⟨rfl, hw1⟩)
        go_ret
        exact ⟨_, rfl, by rw [HRF.out]; exact decide_eq_true i0, HW.out.trans (hw1.mono HW.out.size)⟩
      | false =>
        rw [hb] at hat HC
        have HRF := Lib.hid (show (t.drop (i + 1)).any (fun n => !stampOK n) = res by rw [hat, Bool.false_or])
        clear hat hb
        go_wp2_with (go_at_call 24; refine (HC.out _).mono ?_; rintro e w1 ⟨rfl, hw1⟩)
        go_roundw
        case rel => exact ⟨i + 1, by omega, by go_num, HRF, Lib.hid (HW.out.trans (hw1.mono HW.out.size))⟩
        case measure => simp [intOf]; omega
    · obtain rfl : i = t.length := by omega
      have i1 : decide ((t.length : Int) < (t.length : Int)) = false := by rw [decide_eq_false_iff_not]; omega
      have HE2 := Lib.hid (show res = false by rw [← HE.out, any_end])
      go_wp2_with (fail)
      go_ret
      exact ⟨_, rfl, by rw [HE2.out]; rfl, HW.out⟩

set_option maxHeartbeats 1000000 in
set_option maxRecDepth 100000 in
theorem containsStamp_any (t : List Stp) (A : Option Addr) (c : Nat) (w : World) (hR : IsRows w 3 A (t.map stV)) (hl : t.length ≤ 9223372036854775807) :
    Calls Tryd.prog 26 #[.slice A t.length c, .func (.func 24) #[] #[]] w (Ret w (.bool (t.any (fun n => !stampOK n)))) := by
  have HI := Lib.hid (indexStamp_any t A c w hR hl)
  generalize t.any (fun n => !stampOK n) = res at *
  clear hR
  go_enter Tryd.func26, Tryd.ntmps26
  go_wp2_with (go_at_call 43; refine HI.out.mono ?_; rintro e w1 ⟨r, rfl, hr, hw1⟩)
  go_ret
  exact ⟨by rw [← hr]; rfl, hw1⟩

set_option maxHeartbeats 1000000 in
set_option maxRecDepth 100000 in
theorem isBare_any (t : List Nd) (A : Option Addr) (c : Nat) (m : Int) (w : World) (hL : Laid w m) (hR : IsRows w 4 A (t.map ndV)) (hc : t.length ≤ c) (hlen : t.length ≤ 9223372036854775807) (hp : ∀ n ∈ t, n.path.length ≤ 9223372036854775807 ∧ n.data.length ≤ 9223372036854775807) :
    Calls Tryd.prog 25 #[.slice A t.length c] w (Ret w (.bool (isBareT t))) := by
  have HT := Lib.hid (tcheck_any t A c m w hL hR hc hlen hp)
  have HC := Lib.hid (fun W (h : Below w.heap.size w W) => containsNode_any t A c W (hR.below h) hlen (fun n hn => (hp n hn).2))
  clear hL hR hp
  unfold isBareT
  rw [all_not_any]
  generalize t.any (fun n => !bareN n) = b at *
  generalize treeOK t = b1 at *
  cases b1 with
  | true =>
    have HT1 : Hid (Calls Tryd.prog 41 #[.slice A t.length c] w (Ret w (.int .i64 0))) := HT
    clear HT
    rw [Bool.true_and]
    go_enter Tryd.func25, Tryd.ntmps25
    go_wp2_with (first | (go_at_call 41; refine HT1.out.mono ?_; rintro e w1 ⟨rfl, hw1⟩) | (go_at_call 42; refine (HC.out _ hw1).mono ?_; rintro e w2 ⟨rfl, hw2⟩))
    go_ret
    exact ⟨rfl, hw1.trans (hw2.mono hw1.size)⟩
  | false =>
    have HT1 : Hid (Calls Tryd.prog 41 #[.slice A t.length c] w (Ret w (.int .i64 60))) := HT
    clear HT
    rw [Bool.false_and]
    go_enter Tryd.func25, Tryd.ntmps25
    go_wp2_with (go_at_call 41; refine HT1.out.mono ?_; rintro e w1 ⟨rfl, hw1⟩)
    go_ret
    exact ⟨rfl, hw1⟩
end Go.Proofs.YtjajoiahgfafgaaDoor
end

/- arch.Check. -/
section
set_option linter.unusedVariables false
namespace Go.Proofs.YtjajoiahgfafgaaDoor
open Go.RowKit Plain

/-- an archive's cells -/
def arV (a : Arc) (A : Option Addr) (c : Nat) (B : Option Addr) (d : Nat) : List Value := [.string ⟨a.pair.toArray⟩, .int .i64 a.serial, .slice A a.tree.length c, .slice B a.stamps.length d]
def okA (b : Bool) : Int := if b then 0 else 90
/-- An archive, as it lies. -/
structure ArAt (a : Arc) (A : Option Addr) (c : Nat) (B : Option Addr) (d : Nat) (w : World) : Prop where
  rows : IsRows w 4 A (a.tree.map ndV)
  stps : IsRows w 3 B (a.stamps.map stV)
  capN : a.tree.length ≤ c
  capS : a.stamps.length ≤ d
  lenN : a.tree.length ≤ 9223372036854775807
  lenS : a.stamps.length ≤ 9223372036854775807
  txt : ∀ n ∈ a.tree, n.path.length ≤ 9223372036854775807 ∧ n.data.length ≤ 9223372036854775807
  pr : a.pair.length ≤ 9223372036854775807
theorem ArAt.below {a : Arc} {A B : Option Addr} {c d : Nat} {w w' : World} (h : ArAt a A c B d w) (hb : Below w.heap.size w w') : ArAt a A c B d w' :=
  ⟨h.rows.below hb, h.stps.below hb, h.capN, h.capS, h.lenN, h.lenS, h.txt, h.pr⟩

set_option maxHeartbeats 1000000 in
set_option maxRecDepth 100000 in
theorem acheck_any (a : Arc) (A : Option Addr) (c : Nat) (B : Option Addr) (d : Nat) (m : Int) (w : World) (hL : Laid w m) (hA : ArAt a A c B d w) :
    Calls Tryd.prog 10 #[.agg (arV a A c B d).toArray] w (Ret w (.int .i64 (okA (checkA a)))) := by
  have HB0 := Lib.hid ((Below.refl w.heap.size w).alloc (Nat.le_refl _) (.cells (arV a A c B d).toArray 25))
  have HT := Lib.hid (fun W (h : Below w.heap.size w W) => isBare_any a.tree A c m W (hL.below h) (hA.rows.below h) hA.capN hA.lenN hA.txt)
  have HS := Lib.hid (fun W (h : Below w.heap.size w W) => containsStamp_any a.stamps B d W (hA.stps.below h) hA.lenS)
  have HRW := Lib.hid (heap_alloc_new w (.cells (arV a A c B d).toArray 25))
  have hpl := hA.pr
  have hln := hA.lenN
  have hls := hA.lenS
  clear hL hA
  obtain ⟨pair, serial, tree, stamps⟩ := a
  unfold checkA arV at *
  rw [all_not_any]
  simp only at hpl hln hls HT HS ⊢ HB0 HRW
  generalize stamps.any (fun n => !stampOK n) = bs at *
  generalize isBareT tree = bt at *
  cases h0 : pair.isEmpty with
  | true =>
    simp only [Bool.not_true, Bool.false_and]
    go_enter Tryd.func10, Tryd.ntmps10
    go_wp2_with (fail)
    go_ret
    exact ⟨rfl, HB0.out⟩
  | false =>
  cases h1 : decide ((64 : Int) < pair.length) with
  | true =>
    have h1' : decide (pair.length ≤ 64) = false := by rw [decide_eq_true_eq] at h1; rw [decide_eq_false_iff_not]; omega
    simp only [Bool.not_false, Bool.true_and, h1', Bool.false_and]
    clear h1'
    go_enter Tryd.func10, Tryd.ntmps10
    go_wp2_with (fail)
    go_ret
    exact ⟨rfl, HB0.out⟩
  | false =>
  have h1' : decide (pair.length ≤ 64) = true := by rw [decide_eq_false_iff_not] at h1; rw [decide_eq_true_eq]; omega
  cases h2 : decide (serial < 0) with
  | true =>
    have h2' : decide (0 ≤ serial) = false := by rw [decide_eq_true_eq] at h2; rw [decide_eq_false_iff_not]; omega
    simp only [Bool.not_false, Bool.true_and, h1', h2', Bool.false_and]
    clear h1' h2'
    go_enter Tryd.func10, Tryd.ntmps10
    go_wp2_with (fail)
    go_ret
    exact ⟨rfl, HB0.out⟩
  | false =>
  have h2' : decide (0 ≤ serial) = true := by rw [decide_eq_false_iff_not] at h2; rw [decide_eq_true_eq]; omega
  cases bt with
  | false =>
    simp only [Bool.not_false, Bool.true_and, h1', h2', Bool.false_and]
    clear h1' h2'
    go_enter Tryd.func10, Tryd.ntmps10
    go_wp2_with (go_at_call 25; refine (HT.out _ HB0.out).mono ?_; rintro e w1 ⟨rfl, hw1⟩; have hr1 := Lib.hid ((hw1.block w.heap.size (by simp)).trans HRW.out); have k2 := cell_of_row w1 _ 2 _ _ _ hr1.out; have k3 := cell_of_row w1 _ 3 _ _ _ hr1.out)
    go_ret
    exact ⟨rfl, HB0.out.trans (hw1.mono HB0.out.size)⟩
  | true =>
  by_cases h3 : stamps.length = tree.length
  · have h3' : (stamps.length == tree.length) = true := by rw [beq_iff_eq]; exact h3
    have hi : ((stamps.length : Int) != (tree.length : Int)) = false := by rw [bne_eq_false_iff_eq]; omega
    simp only [Bool.not_false, Bool.true_and, h1', h2', h3']
    have HH := Lib.hid h3
    clear h1' h2' h3' h3
    cases bs
    all_goals
      go_enter Tryd.func10, Tryd.ntmps10
      go_wp2_with (first | (go_at_call 25; refine (HT.out _ HB0.out).mono ?_; rintro e w1 ⟨rfl, hw1⟩; have hr1 := Lib.hid ((hw1.block w.heap.size (by simp)).trans HRW.out); have k2 := cell_of_row w1 _ 2 _ _ _ hr1.out; have k3 := cell_of_row w1 _ 3 _ _ _ hr1.out) | (go_at_call 26; refine (HS.out _ (HB0.out.trans (hw1.mono HB0.out.size))).mono ?_; rintro e w2 ⟨rfl, hw2⟩))
      go_ret
      exact ⟨rfl, (HB0.out.trans (hw1.mono HB0.out.size)).trans (hw2.mono (HB0.out.trans (hw1.mono HB0.out.size)).size)⟩
  · have h3' : (stamps.length == tree.length) = false := by rw [beq_eq_false_iff_ne]; exact h3
    have hi : ((stamps.length : Int) != (tree.length : Int)) = true := by rw [bne_iff_ne]; omega
    simp only [Bool.not_false, Bool.true_and, h1', h2', h3', Bool.false_and]
    have HH := Lib.hid h3
    clear h1' h2' h3' h3
    go_enter Tryd.func10, Tryd.ntmps10
    go_wp2_with (go_at_call 25; refine (HT.out _ HB0.out).mono ?_; rintro e w1 ⟨rfl, hw1⟩; have hr1 := Lib.hid ((hw1.block w.heap.size (by simp)).trans HRW.out); have k2 := cell_of_row w1 _ 2 _ _ _ hr1.out; have k3 := cell_of_row w1 _ 3 _ _ _ hr1.out)
    go_ret
    exact ⟨rfl, HB0.out.trans (hw1.mono HB0.out.size)⟩

set_option maxHeartbeats 1000000 in
set_option maxRecDepth 100000 in
/-- arch.Match -/
theorem amatch_any (a b : Arc) (A : Option Addr) (c : Nat) (B : Option Addr) (d : Nat) (A' : Option Addr) (c' : Nat) (B' : Option Addr) (d' : Nat) (m : Int) (w : World) (hL : Laid w m) (hA : ArAt a A c B d w) (hB : ArAt b A' c' B' d' w) :
    Calls Tryd.prog 9 #[.agg (arV a A c B d).toArray, .agg (arV b A' c' B' d').toArray] w (Ret w (.bool (checkA a && checkA b && (a.pair == b.pair) && (a.serial == b.serial) && (a.tree == b.tree)))) := by
  have HCA := Lib.hid (fun W (h : Below w.heap.size w W) => acheck_any a A c B d m W (hL.below h) (hA.below h))
  have HCB := Lib.hid (fun W (h : Below w.heap.size w W) => acheck_any b A' c' B' d' m W (hL.below h) (hB.below h))
  have HSM := Lib.hid (fun W (h : Below w.heap.size w W) => tsame_any a.tree b.tree A A' c c' W (hA.rows.below h) (hB.rows.below h) hA.lenN hB.lenN)
  obtain ⟨w0, hw0⟩ : ∃ w0, (w.alloc (.cells (arV a A c B d).toArray 25)).alloc (.cells (arV b A' c' B' d').toArray 25) = w0 := ⟨_, rfl⟩
  have HB0 := Lib.hid (show Below w.heap.size w w0 by rw [← hw0]; exact ((Below.refl w.heap.size w).alloc (Nat.le_refl _) _).alloc (by simp) _)
  have HS0 := Lib.hid (show w0.heap.size = w.heap.size + 2 by rw [← hw0]; simp)
  have HRA := Lib.hid (show w0.heap[w.heap.size]? = some (.cells (arV a A c B d).toArray 25 (0, 0)) by rw [← hw0, Below.heap_alloc _ _ _ (by simp)]; exact heap_alloc_new _ _)
  have HRB := Lib.hid (show w0.heap[w.heap.size + 1]? = some (.cells (arV b A' c' B' d').toArray 25 (0, 0)) by have := heap_alloc_new (w.alloc (.cells (arV a A c B d).toArray 25)) (.cells (arV b A' c' B' d').toArray 25); rw [← hw0]; simpa using this)
  have HW0 := Lib.hid hw0
  clear hL hA hB hw0
  generalize checkA a = ca at *
  generalize checkA b = cb at *
  obtain ⟨pair, serial, tree, stamps⟩ := a
  obtain ⟨pair', serial', tree', stamps'⟩ := b
  unfold arV at *
  simp only at HCA HCB HSM HRA HRB HW0 ⊢
  generalize (tree == tree') = bt at *
  cases ca with
  | false =>
    have H1 : Hid (∀ W, Below w.heap.size w W → Calls Tryd.prog 10 #[.agg #[.string ⟨pair.toArray⟩, .int .i64 serial, .slice A tree.length c, .slice B stamps.length d]] W (Ret W (.int .i64 90))) := HCA
    clear HCA
    simp only [Bool.false_and]
    go_enter Tryd.func9, Tryd.ntmps9
    go_upto_region 1 with (fail)
    rw [HW0.out]
    have ta0 := cell_of_row w0 _ 0 _ _ _ HRA.out; have ta1 := cell_of_row w0 _ 1 _ _ _ HRA.out; have ta2 := cell_of_row w0 _ 2 _ _ _ HRA.out; have ta3 := cell_of_row w0 _ 3 _ _ _ HRA.out
    go_wp2_with (go_at_call 10; refine (H1.out _ HB0.out).mono ?_; rintro e w1 ⟨rfl, hw1⟩)
    go_ret
    exact ⟨rfl, HB0.out.trans (hw1.mono HB0.out.size)⟩
  | true =>
  have H1 : Hid (∀ W, Below w.heap.size w W → Calls Tryd.prog 10 #[.agg #[.string ⟨pair.toArray⟩, .int .i64 serial, .slice A tree.length c, .slice B stamps.length d]] W (Ret W (.int .i64 0))) := HCA
  clear HCA
  cases cb with
  | false =>
    have H2 : Hid (∀ W, Below w.heap.size w W → Calls Tryd.prog 10 #[.agg #[.string ⟨pair'.toArray⟩, .int .i64 serial', .slice A' tree'.length c', .slice B' stamps'.length d']] W (Ret W (.int .i64 90))) := HCB
    clear HCB
    simp only [Bool.false_and, Bool.and_false]
    go_enter Tryd.func9, Tryd.ntmps9
    go_upto_region 1 with (fail)
    rw [HW0.out]
    have ta0 := cell_of_row w0 _ 0 _ _ _ HRA.out; have ta1 := cell_of_row w0 _ 1 _ _ _ HRA.out; have ta2 := cell_of_row w0 _ 2 _ _ _ HRA.out; have ta3 := cell_of_row w0 _ 3 _ _ _ HRA.out
    go_wp2_with (fail)
    refine (H1.out _ HB0.out).mono ?_
    rintro e w1 ⟨rfl, hw1⟩
    have HB1 := Lib.hid (HB0.out.trans (hw1.mono HB0.out.size))
    have hra := (hw1.block w.heap.size (by have := HS0.out; omega)).trans HRA.out
    have hrb := (hw1.block (w.heap.size + 1) (by have := HS0.out; omega)).trans HRB.out
    have p0 := cell_of_row w1 _ 0 _ _ _ hra
    have q0 := cell_of_row w1 _ 0 _ _ _ hrb
    have p1 := cell_of_row w1 _ 1 _ _ _ hra
    have q1 := cell_of_row w1 _ 1 _ _ _ hrb
    have p2 := cell_of_row w1 _ 2 _ _ _ hra
    have q2 := cell_of_row w1 _ 2 _ _ _ hrb
    have p3 := cell_of_row w1 _ 3 _ _ _ hra
    have q3 := cell_of_row w1 _ 3 _ _ _ hrb
    have HRA2 := Lib.hid hra
    have HRB2 := Lib.hid hrb
    clear hra hrb
    go_wp2_with (fail)
    refine (H2.out _ HB1.out).mono ?_
    rintro e w2 ⟨rfl, hw2⟩
    have HB2 := Lib.hid (HB1.out.trans (hw2.mono HB1.out.size))
    have hra2 := (hw2.block w.heap.size (by have := hw1.size; have := HS0.out; omega)).trans HRA2.out
    have hrb2 := (hw2.block (w.heap.size + 1) (by have := hw1.size; have := HS0.out; omega)).trans HRB2.out
    have r0 := cell_of_row w2 _ 0 _ _ _ hra2
    have s0 := cell_of_row w2 _ 0 _ _ _ hrb2
    have r1 := cell_of_row w2 _ 1 _ _ _ hra2
    have s1 := cell_of_row w2 _ 1 _ _ _ hrb2
    have r2 := cell_of_row w2 _ 2 _ _ _ hra2
    have s2 := cell_of_row w2 _ 2 _ _ _ hrb2
    have r3 := cell_of_row w2 _ 3 _ _ _ hra2
    have s3 := cell_of_row w2 _ 3 _ _ _ hrb2
    clear hra2 hrb2
    go_wp2_with (fail)
    go_ret
    exact ⟨rfl, HB2.out⟩
  | true =>
  have H2 : Hid (∀ W, Below w.heap.size w W → Calls Tryd.prog 10 #[.agg #[.string ⟨pair'.toArray⟩, .int .i64 serial', .slice A' tree'.length c', .slice B' stamps'.length d']] W (Ret W (.int .i64 0))) := HCB
  clear HCB
  simp only [Bool.and_true, Bool.true_and]
  cases hpp : (pair == pair') with
  | false =>
    simp only [Bool.false_and]
    go_enter Tryd.func9, Tryd.ntmps9
    go_upto_region 1 with (fail)
    rw [HW0.out]
    have ta0 := cell_of_row w0 _ 0 _ _ _ HRA.out; have ta1 := cell_of_row w0 _ 1 _ _ _ HRA.out; have ta2 := cell_of_row w0 _ 2 _ _ _ HRA.out; have ta3 := cell_of_row w0 _ 3 _ _ _ HRA.out
    go_wp2_with (fail)
    refine (H1.out _ HB0.out).mono ?_
    rintro e w1 ⟨rfl, hw1⟩
    have HB1 := Lib.hid (HB0.out.trans (hw1.mono HB0.out.size))
    have hra := (hw1.block w.heap.size (by have := HS0.out; omega)).trans HRA.out
    have hrb := (hw1.block (w.heap.size + 1) (by have := HS0.out; omega)).trans HRB.out
    have p0 := cell_of_row w1 _ 0 _ _ _ hra
    have q0 := cell_of_row w1 _ 0 _ _ _ hrb
    have p1 := cell_of_row w1 _ 1 _ _ _ hra
    have q1 := cell_of_row w1 _ 1 _ _ _ hrb
    have p2 := cell_of_row w1 _ 2 _ _ _ hra
    have q2 := cell_of_row w1 _ 2 _ _ _ hrb
    have p3 := cell_of_row w1 _ 3 _ _ _ hra
    have q3 := cell_of_row w1 _ 3 _ _ _ hrb
    have HRA2 := Lib.hid hra
    have HRB2 := Lib.hid hrb
    clear hra hrb
    go_wp2_with (fail)
    refine (H2.out _ HB1.out).mono ?_
    rintro e w2 ⟨rfl, hw2⟩
    have HB2 := Lib.hid (HB1.out.trans (hw2.mono HB1.out.size))
    have hra2 := (hw2.block w.heap.size (by have := hw1.size; have := HS0.out; omega)).trans HRA2.out
    have hrb2 := (hw2.block (w.heap.size + 1) (by have := hw1.size; have := HS0.out; omega)).trans HRB2.out
    have r0 := cell_of_row w2 _ 0 _ _ _ hra2
    have s0 := cell_of_row w2 _ 0 _ _ _ hrb2
    have r1 := cell_of_row w2 _ 1 _ _ _ hra2
    have s1 := cell_of_row w2 _ 1 _ _ _ hrb2
    have r2 := cell_of_row w2 _ 2 _ _ _ hra2
    have s2 := cell_of_row w2 _ 2 _ _ _ hrb2
    have r3 := cell_of_row w2 _ 3 _ _ _ hra2
    have s3 := cell_of_row w2 _ 3 _ _ _ hrb2
    clear hra2 hrb2
    go_wp2_with (fail)
    go_ret
    exact ⟨rfl, HB2.out⟩
  | true =>
  cases hss : (serial == serial') with
  | false =>
    simp only [Bool.false_and, Bool.and_false]
    go_enter Tryd.func9, Tryd.ntmps9
    go_upto_region 1 with (fail)
    rw [HW0.out]
    have ta0 := cell_of_row w0 _ 0 _ _ _ HRA.out; have ta1 := cell_of_row w0 _ 1 _ _ _ HRA.out; have ta2 := cell_of_row w0 _ 2 _ _ _ HRA.out; have ta3 := cell_of_row w0 _ 3 _ _ _ HRA.out
    go_wp2_with (fail)
    refine (H1.out _ HB0.out).mono ?_
    rintro e w1 ⟨rfl, hw1⟩
    have HB1 := Lib.hid (HB0.out.trans (hw1.mono HB0.out.size))
    have hra := (hw1.block w.heap.size (by have := HS0.out; omega)).trans HRA.out
    have hrb := (hw1.block (w.heap.size + 1) (by have := HS0.out; omega)).trans HRB.out
    have p0 := cell_of_row w1 _ 0 _ _ _ hra
    have q0 := cell_of_row w1 _ 0 _ _ _ hrb
    have p1 := cell_of_row w1 _ 1 _ _ _ hra
    have q1 := cell_of_row w1 _ 1 _ _ _ hrb
    have p2 := cell_of_row w1 _ 2 _ _ _ hra
    have q2 := cell_of_row w1 _ 2 _ _ _ hrb
    have p3 := cell_of_row w1 _ 3 _ _ _ hra
    have q3 := cell_of_row w1 _ 3 _ _ _ hrb
    have HRA2 := Lib.hid hra
    have HRB2 := Lib.hid hrb
    clear hra hrb
    go_wp2_with (fail)
    refine (H2.out _ HB1.out).mono ?_
    rintro e w2 ⟨rfl, hw2⟩
    have HB2 := Lib.hid (HB1.out.trans (hw2.mono HB1.out.size))
    have hra2 := (hw2.block w.heap.size (by have := hw1.size; have := HS0.out; omega)).trans HRA2.out
    have hrb2 := (hw2.block (w.heap.size + 1) (by have := hw1.size; have := HS0.out; omega)).trans HRB2.out
    have r0 := cell_of_row w2 _ 0 _ _ _ hra2
    have s0 := cell_of_row w2 _ 0 _ _ _ hrb2
    have r1 := cell_of_row w2 _ 1 _ _ _ hra2
    have s1 := cell_of_row w2 _ 1 _ _ _ hrb2
    have r2 := cell_of_row w2 _ 2 _ _ _ hra2
    have s2 := cell_of_row w2 _ 2 _ _ _ hrb2
    have r3 := cell_of_row w2 _ 3 _ _ _ hra2
    have s3 := cell_of_row w2 _ 3 _ _ _ hrb2
    clear hra2 hrb2
    go_wp2_with (fail)
    go_ret
    exact ⟨rfl, HB2.out⟩
  | true =>
    simp only [Bool.true_and]
    go_enter Tryd.func9, Tryd.ntmps9
    go_upto_region 1 with (fail)
    rw [HW0.out]
    have ta0 := cell_of_row w0 _ 0 _ _ _ HRA.out; have ta1 := cell_of_row w0 _ 1 _ _ _ HRA.out; have ta2 := cell_of_row w0 _ 2 _ _ _ HRA.out; have ta3 := cell_of_row w0 _ 3 _ _ _ HRA.out
    go_wp2_with (fail)
    refine (H1.out _ HB0.out).mono ?_
    rintro e w1 ⟨rfl, hw1⟩
    have HB1 := Lib.hid (HB0.out.trans (hw1.mono HB0.out.size))
    have hra := (hw1.block w.heap.size (by have := HS0.out; omega)).trans HRA.out
    have hrb := (hw1.block (w.heap.size + 1) (by have := HS0.out; omega)).trans HRB.out
    have p0 := cell_of_row w1 _ 0 _ _ _ hra
    have q0 := cell_of_row w1 _ 0 _ _ _ hrb
    have p1 := cell_of_row w1 _ 1 _ _ _ hra
    have q1 := cell_of_row w1 _ 1 _ _ _ hrb
    have p2 := cell_of_row w1 _ 2 _ _ _ hra
    have q2 := cell_of_row w1 _ 2 _ _ _ hrb
    have p3 := cell_of_row w1 _ 3 _ _ _ hra
    have q3 := cell_of_row w1 _ 3 _ _ _ hrb
    have HRA2 := Lib.hid hra
    have HRB2 := Lib.hid hrb
    clear hra hrb
    go_wp2_with (fail)
    refine (H2.out _ HB1.out).mono ?_
    rintro e w2 ⟨rfl, hw2⟩
    have HB2 := Lib.hid (HB1.out.trans (hw2.mono HB1.out.size))
    have hra2 := (hw2.block w.heap.size (by have := hw1.size; have := HS0.out; omega)).trans HRA2.out
    have hrb2 := (hw2.block (w.heap.size + 1) (by have := hw1.size; have := HS0.out; omega)).trans HRB2.out
    have r0 := cell_of_row w2 _ 0 _ _ _ hra2
    have s0 := cell_of_row w2 _ 0 _ _ _ hrb2
    have r1 := cell_of_row w2 _ 1 _ _ _ hra2
    have s1 := cell_of_row w2 _ 1 _ _ _ hrb2
    have r2 := cell_of_row w2 _ 2 _ _ _ hra2
    have s2 := cell_of_row w2 _ 2 _ _ _ hrb2
    have r3 := cell_of_row w2 _ 3 _ _ _ hra2
    have s3 := cell_of_row w2 _ 3 _ _ _ hrb2
    clear hra2 hrb2
    go_wp2_with (fail)
    refine (HSM.out _ HB2.out).mono ?_
    rintro e w3 ⟨rfl, hw3⟩
    go_wp2_with (fail)
    go_ret
    exact ⟨rfl, HB2.out.trans (hw3.mono HB2.out.size)⟩
end Go.Proofs.YtjajoiahgfafgaaDoor
end

/- Contracts of strings.Builder's methods at a builder that a struct of the call's own embeds: arch's writer. -/
section
set_option linter.unusedVariables false
namespace Go.Proofs.YtjajoiahgfafgaaDoor
open Go.RowKit

theorem liesWriter : liesAt Tryd.prog Tryd.prog.depth 40 (2 / Tryd.prog.cellsOf 40) 0 38 1 = true := by kernel_rfl
theorem fresh_writer (w : World) : Lib.IsBuilderF 40 5 w.heap.size w.heap.size (Lib.byteCells []) (w.alloc (.cells #[.pointer none, .slice none 0 0] 40)) :=
  Lib.IsBuilderF.of (Lib.fresh_isBuilder _ _ w)

set_option maxHeartbeats 400000 in
theorem copyCheckW_used (b : Nat) (w : World) (h0 : w.cell? ⟨b, 0, none⟩ = some (.pointer (some ⟨b, 0, none⟩))) :
    Calls Tryd.prog 44 #[.pointer (some ⟨b, 0, none⟩)] w fun e w' => e = .returned (.tuple #[]) ∧ w' = w := by
  obtain ⟨j, hj, _⟩ := Option.map_eq_some_iff.1 sizeBuilder
  have hne := fun w => Lib.run_neq_ptr_same (P := Tryd.prog) w ⟨b, 0, none⟩ Tryd.underlying36 hj
  go_enter Tryd.func44, Tryd.ntmps44
  go_wp2_with (fail)
  go_end0
  exact ⟨rfl, rfl⟩

set_option maxHeartbeats 400000 in
theorem copyCheckW_fresh (b : Nat) (w : World) (h0 : w.cell? ⟨b, 0, none⟩ = some (.pointer none)) (hsh : w.shape? b = some (40, 2)) (hfz : w.frozen? ⟨b, 0, none⟩ = false) :
    Calls Tryd.prog 44 #[.pointer (some ⟨b, 0, none⟩)] w fun e w' => e = .returned (.tuple #[]) ∧ w' = w.setCell ⟨b, 0, none⟩ (.pointer (some ⟨b, 0, none⟩)) := by
  obtain ⟨j, hj, hjs⟩ := Option.map_eq_some_iff.1 sizeBuilder
  have c1 := Lib.run_to_unsafe (P := Tryd.prog) w ⟨b, 0, none⟩ Tryd.underlying36 Tryd.underlying94 hj (by rw [hjs]; decide) hsh (Nat.zero_lt_succ 1)
  have c2 := Lib.run_from_unsafe (P := Tryd.prog) w ⟨b, 0, none⟩ Tryd.underlying94 Tryd.underlying36 hj hsh liesWriter
  have c3 : ∀ (x : Value) w, (callFunc 54 #[x]).run Tryd.prog w = .ok (.value x) w := fun x w => by
    rw [run_callFunc_extern Tryd.func54 (by kernel_rfl) (by kernel_rfl) (by kernel_rfl) (e := Extern.AbiNoEscape.same) (by kernel_rfl), Lib.run_noEscape]
    rfl
  go_enter Tryd.func44, Tryd.ntmps44
  go_wp2_with (fail)
  go_end0
  exact ⟨rfl, rfl⟩

theorem copyCheckW_any (B b : Nat) (bs : List Value) (w : World) (h : Lib.IsBuilderF 40 5 B b bs w) :
    Calls Tryd.prog 44 #[.pointer (some ⟨b, 0, none⟩)] w fun e w' => e = .returned (.tuple #[]) ∧
      (Lib.BuilderAtF 40 5 B b (.pointer (some ⟨b, 0, none⟩)) bs w' ∧ Below B w w' ∧ Lib.OthersKept 5 (some b) w w') := by
  rcases h with h | h
  · refine (copyCheckW_fresh b w h.cell0 h.shape h.frozen0).mono ?_
    rintro e w' ⟨rfl, rfl⟩
    exact ⟨rfl, h.used _, (Below.refl B w).setCell (p := ⟨b, 0, none⟩) h.1 _, (Lib.OthersKept.refl _ _ w).setCell ⟨b, 0, none⟩ rfl _⟩
  · refine (copyCheckW_used b w h.cell0).mono ?_
    rintro e w' ⟨rfl, rfl⟩
    exact ⟨rfl, h, Below.refl B _, Lib.OthersKept.refl _ _ _⟩

set_option maxHeartbeats 400000 in
theorem WriteStringW_any (B b : Nat) (bs : List Value) (s : ByteArray) (w : World) (h : Lib.IsBuilderF 40 5 B b bs w) (hlen : bs.length + s.size ≤ 140737488355328) (hBw : B ≤ w.heap.size) :
    Calls Tryd.prog 27 #[.pointer (some ⟨b, 0, none⟩), .string s] w fun e w' => e = .returned (.tuple #[.int .i64 s.size, .nilIface]) ∧
      (Lib.BuilderAtF 40 5 B b (.pointer (some ⟨b, 0, none⟩)) (bs ++ Lib.strCells s) w' ∧ Below B w w' ∧ Lib.OthersKept 5 (some b) w w') := by
  obtain ⟨i0, hi, hz0, hz1, hz2⟩ := info_parts info_byte
  go_enter Tryd.func27, Tryd.ntmps27
  go_wp2_with (fail)
  refine (copyCheckW_any B b bs _ h).mono ?_
  rintro e w1 ⟨rfl, h1, hb1, hk1⟩
  obtain ⟨hB, v, hbk, hown, hne⟩ := h1
  have c0 : w1.cell? ⟨b, 0, none⟩ = some (.pointer (some ⟨b, 0, none⟩)) := by rw [Lib.cell_of_heap hbk]; rfl
  have c1 : w1.cell? ⟨b, 1, none⟩ = some v := by rw [Lib.cell_of_heap hbk]; rfl
  go_wp2_with (at_builtin; refine Lib.wpList_append_own_stringF _ rfl _ _ 30 9 rfl B 5 i0 Tryd.underlying30 Tryd.underlying9 hi hz0 hz1 hz2 _ _ _ rfl hown s rfl ?c3 ?c4 ?c5 ?_)
  case c3 => unfold maxLen; omega
  case c4 => omega
  case c5 => have := hb1.size; omega
  intro v' w2 hown' hgrow _
  have hlt : b < w1.heap.size := by
    rcases Nat.lt_or_ge b w1.heap.size with h' | h'
    · exact h'
    · simp [Array.getElem?_eq_none h'] at hbk
  have hb2 : w2.heap[b]? = some (.cells #[.pointer (some ⟨b, 0, none⟩), v] 40 (0, 0)) := by
    rw [hgrow.block b hlt (fun e => hne e.symm)]
    exact hbk
  have d0 : w2.cell? ⟨b, 0, none⟩ = some (.pointer (some ⟨b, 0, none⟩)) := by rw [Lib.cell_of_heap hb2]; rfl
  have d1 : w2.cell? ⟨b, 1, none⟩ = some v := by rw [Lib.cell_of_heap hb2]; rfl
  have f1 : w2.frozen? ⟨b, 1, none⟩ = false := Lib.frozen_of_heap hb2 1
  obtain ⟨ao, n', cap, rfl⟩ : ∃ ao n' cap, v' = .slice ao n' cap := by
    rcases hown'.2 with ⟨hv, _⟩ | ⟨g, cap, cur, fz, hv, _⟩
    · exact ⟨_, _, _, hv⟩
    · exact ⟨_, _, _, hv⟩
  go_wp2
  go_ret2
  refine ⟨rfl, ?_, ?_, (hk1.grown hgrow (Lib.ownsRowF_kind hown)).setCell ⟨b, 1, none⟩ rfl _⟩
  · exact Lib.BuilderAtF.put (T := 40) (e := 5) hB hb2 (bs' := bs ++ Lib.strCells s) (by simpa [Lib.strCells_length] using hown') (by decide)
  · exact (hb1.grown hgrow (by have := hb1.size; omega) (fun k hk => (hown.lt k hk).1)).setCell (p := ⟨b, 1, none⟩) hB _

/-- The same, by lists of bytes. -/
theorem WriteStringW_list (B b : Nat) (l s : List UInt8) (w : World) (h : Lib.IsBuilderF 40 5 B b (Lib.byteCells l) w) (hlen : l.length + s.length ≤ 140737488355328) (hBw : B ≤ w.heap.size) :
    Calls Tryd.prog 27 #[.pointer (some ⟨b, 0, none⟩), .string ⟨s.toArray⟩] w fun e w' => e = .returned (.tuple #[.int .i64 s.length, .nilIface]) ∧
      (Lib.IsBuilderF 40 5 B b (Lib.byteCells (l ++ s)) w' ∧ Below B w w' ∧ Lib.OthersKept 5 (some b) w w') :=
  (WriteStringW_any B b _ ⟨s.toArray⟩ w h (by simpa [Lib.byteCells_length, ByteArray.size] using hlen) hBw).mono fun e w' ⟨he, h1, h2, h3⟩ =>
    ⟨he, .inr (by rw [Lib.byteCells_append]; exact h1), h2, h3⟩

set_option maxHeartbeats 1000000 in
set_option maxRecDepth 100000 in
theorem StringW_any (B b : Nat) (l : List UInt8) (w : World) (h : Lib.IsBuilderF 40 5 B b (Lib.byteCells l) w) (h0 : l ≠ []) :
    Calls Tryd.prog 14 #[.pointer (some ⟨b, 0, none⟩)] w fun e w' => e = .returned (.string ⟨l.toArray⟩) ∧ Below B w w' := by
  obtain ⟨p, hp, hAt⟩ : ∃ p, (p = .pointer none ∨ p = .pointer (some ⟨b, 0, none⟩)) ∧ Lib.BuilderAtF 40 5 B b p (Lib.byteCells l) w := by
    rcases h with h | h
    · exact ⟨_, .inl rfl, h⟩
    · exact ⟨_, .inr rfl, h⟩
  obtain ⟨hB, v, hbk, hown, hne⟩ := hAt
  have hl0 : l.length ≠ 0 := by simpa using h0
  rw [Lib.byteCells_length] at hown
  obtain ⟨g, cap, cur, fz, rfl, hbg, hg, hfz, hnc, hcm, hcs, htake⟩ : ∃ g cap cur fz, v = .slice (some ⟨g, 0, none⟩) l.length cap ∧ B ≤ g ∧ w.heap[g]? = some (.cells cur 5 fz) ∧ fz.2 ≤ l.length * 1 ∧ l.length ≤ cap ∧ cap ≤ maxLen ∧ cur.size = cap * 1 ∧ cur.toList.take (l.length * 1) = Lib.byteCells l := by
    rcases hown.2 with ⟨_, hz⟩ | ⟨g, cap, cur, fz, hv, r⟩
    · exact absurd hz hl0
    · exact ⟨g, cap, cur, fz, hv, r⟩
  have c1 : w.drew.cell? ⟨b, 1, none⟩ = some (.slice (some ⟨g, 0, none⟩) l.length cap) := by
    have : w.drew.heap[b]? = some (.cells #[p, .slice (some ⟨g, 0, none⟩) l.length cap] 40 (0, 0)) := hbk
    rw [Lib.cell_of_heap this]; rfl
  have hSD : (Builtin.unsafeSliceData_ #[30] 71 #[.slice (some ⟨g, 0, none⟩) l.length cap]).run Tryd.prog w.drew = .ok (.pointer (some ⟨g, 0, none⟩)) w.drew :=
    Lib.run_unsafeSliceData_row _ _ _ _ _ _ (by omega)
  have hUS : (Builtin.unsafeString_ #[71, 3] 9 #[.pointer (some ⟨g, 0, none⟩), .int .i64 l.length]).run Tryd.prog w.drew = .ok (.string ⟨l.toArray⟩) (w.drew.freeze ⟨g, 0, none⟩ l.length) := by
    refine Lib.run_unsafeString_row w.drew 71 3 9 5 Tryd.underlying71 (by kernel_rfl) g cur.size (by have hg' : w.drew.heap[g]? = some (.cells cur 5 fz) := hg; simp [World.shape?, hg']) l h0 (by omega) (by unfold maxLen at hcm; omega) ?_
    intro j x hx
    have := hown.cells (g := g) rfl j (.int .u8 x.toNat) (by simp [Lib.byteCells, hx])
    exact this
  have mixed : Tryd.prog.follows .mixedOrders = true := by kernel_rfl
  go_enter Tryd.func14, Tryd.ntmps14
  go_wp2_with (fail)
  go_region_o
  all_goals (go_wp2_with (fail); go_ret; exact ⟨rfl, Lib.below_freeze (Below.drew (Below.refl B w)) (p := ⟨g, 0, none⟩) hbg _⟩)
end Go.Proofs.YtjajoiahgfafgaaDoor
end

/- A region that draws its order: a head whose operations each yield one value in every world of a class, and a tail that comes behind it in one order alone. -/
section
namespace Go.Proofs.YtjajoiahgfafgaaDoor
open Go.RowKit

section
variable {P : Program} {ops : Array Oper} {md : Region.Mode} {C : World → Prop}
def wpAnyQL (P : Program) (md : Region.Mode) (ops : Array Oper) (C : World → Prop) (n : Nat) (L : Array Bool → Act → Prop) : Nat → Array Bool → Act → Prop
  | 0, listed, a => L listed a
  | f + 1, listed, a => Region.ready md ops listed ≠ [] ∧ ∀ i ∈ Region.ready md ops listed, i < n ∧ qOp P ops C i (wpAnyQL P md ops C n L f (listed.setIfInBounds i true)) a

theorem wpAny_of_qhead {n g : Nat} {L : Array Bool → Act → Prop} {Q' : Exit → Act → World → Prop} (hL : ∀ listed a w, C w → L listed a → wpAny P md ops Q' g listed a w) :
    ∀ (f : Nat) (listed : Array Bool) (a : Act) (w : World), C w → wpAnyQL P md ops C n L f listed a → wpAny P md ops Q' (f + g) listed a w
  | 0, listed, a, w, hw, h => by rw [Nat.zero_add]; exact hL _ _ _ hw h
  | f + 1, listed, a, w, hw, h => by
    rw [show f + 1 + g = (f + g) + 1 by omega]
    exact ⟨fun h0 => absurd h0 h.1, fun i hi => wpOp_of_qOp hw (fun a' w' hw' h' => wpAny_of_qhead hL f _ a' w' hw' h') (h.2 i hi).2⟩

theorem wpAnyQL_first {n i : Nat} {oi : Oper} {v : Value} {L : Array Bool → Act → Prop} (hi : ops[i]? = some oi) (hsel : ∀ (j : Nat) (o : Oper) cs b, ops[j]? = some o → o.op ≠ .select cs b)
    (hs : Region.sinkB md ops n = true) (hc : Region.chainB md ops n = true) (hn : n < ops.size) (hin : i < n)
    (hdone : ∀ listed a, L listed a → ∀ j ∈ Region.ready md ops listed, n ≤ j) :
    ∀ (f : Nat) (listed : Array Bool) (a : Act), HeadInv md ops n listed →
      (∀ j oj, ops[j]? = some oj → j ≠ i → listed.getD j true = false → (∀ e ∈ oj.after, Region.binds md e = true → e.on ≠ i) → oi.apart ops oj = true) →
      i ∈ Region.ready md ops listed → YieldsIn P ops C oi v a →
      wpAnyQL P md ops C n L f (listed.setIfInBounds i true) (a.put oi.dst v) → wpAnyQL P md ops C n L (f + 1) listed a := by
  intro f
  induction f with
  | zero =>
    intro listed a inv _ hr hy H
    have hun := (mem_ready.1 hr).1
    refine ⟨fun h => (by rw [h] at hr; cases hr), fun j hj => ?_⟩
    have hjn : j < n := by
      rcases Nat.lt_or_ge j n with h | h
      · exact h
      · exact absurd hj (tail_waits hs hc hn inv _ i rfl hin hun j h)
    refine ⟨hjn, ?_⟩
    by_cases hji : j = i
    · subst hji; exact hy.qOp hi H
    · have := hdone _ _ H j (ready_mono hj hji)
      omega
  | succ f ih =>
    intro listed a inv hfree hr hy H
    have hun := (mem_ready.1 hr).1
    refine ⟨fun h => (by rw [h] at hr; cases hr), fun j hj => ?_⟩
    have hjn : j < n := by
      rcases Nat.lt_or_ge j n with h | h
      · exact h
      · exact absurd hj (tail_waits hs hc hn inv _ i rfl hin hun j h)
    refine ⟨hjn, ?_⟩
    by_cases hji : j = i
    · subst hji; exact hy.qOp hi H
    · have h1 := (H.2 j (ready_mono hj hji)).2
      obtain ⟨hjun, oj, hoj, hall⟩ := mem_ready.1 hj
      have hnot : ∀ e ∈ oj.after, Region.binds md e = true → e.on ≠ i := fun e he hb heq => by
        have h1 := hall e he hb
        rw [heq, getD_both hun] at h1
        cases h1
      have h2 := qOp_put hoj (hfree j oj hoj hji hjun hnot) (fun cs b => hsel i oi cs b hi) (fun cs b => hsel j oj cs b hoj) hy h1
      have hfree' : ∀ k ok, ops[k]? = some ok → k ≠ i → (listed.setIfInBounds j true).getD k true = false →
          (∀ e ∈ ok.after, Region.binds md e = true → e.on ≠ i) → oi.apart ops ok = true := fun k ok hk hki hun hno => by
        refine hfree k ok hk hki ?_ hno
        by_cases hjk : j = k
        · subst hjk; exact hjun
        · rw [getD_set_ne true hjk] at hun; exact hun
      refine qOp_mono (fun a' h3 => ih (listed.setIfInBounds j true) a' (inv.set hj hjn) hfree' (ready_mono hr (Ne.symm hji)) h3.1 ?_) h2
      rw [Array.setIfInBounds_comm _ _ hji]
      exact h3.2

theorem wpAnyQL_lex {n g : Nat} {Lq : Act → Prop} (hsel : Region.noSelect ops = true) (hs : Region.sinkB md ops n = true) (hc : Region.chainB md ops n = true) (hn : n < ops.size) :
    ∀ (l : List Oper) (k : Nat) (listed : Array Bool) (a : Act), (∀ j, j < l.length → l[j]? = ops[k + j]?) → k + l.length = n → HeadInv md ops n listed →
    Region.lexHead md ops g l.length k listed = true → wpQuiet P ops C Lq l a →
    wpAnyQL P md ops C n (fun listed' a' => Region.seqB md ops g n listed' = true ∧ Lq a') l.length listed a
  | [], k, listed, a, _, hk, _, hB, h => by
    have : k = n := by simpa using hk
    subst this
    exact ⟨by simpa [Region.lexHead] using hB, h⟩
  | o :: l, k, listed, a, hl, hk, inv, hB, h => by
    have h0 : ops[k]? = some o := by simpa using (hl 0 (by simp)).symm
    simp only [List.length_cons, Region.lexHead, Bool.and_eq_true] at hB
    obtain ⟨⟨hr, hf⟩, hB'⟩ := hB
    have hkn : k < n := by simp only [List.length_cons] at hk; omega
    have hr' : k ∈ Region.ready md ops listed := by simpa using hr
    have hst : qOp P ops C k (wpQuiet P ops C Lq l) a := by unfold qOp; simp only [h0]; exact h
    obtain ⟨v, hy, hK⟩ := yieldsIn_of_qOp h0 hst
    exact wpAnyQL_first h0 (Region.noSelect_spec hsel) hs hc hn hkn (fun listed' a' hL => seqB_ready hL.1) l.length listed a inv (Region.free_spec h0 hf) hr' hy
      (wpAnyQL_lex hsel hs hc hn l (k + 1) _ _ (fun j hj => by have := hl (j + 1) (by simp; omega); simpa [Nat.add_assoc, Nat.add_comm 1 j] using this) (by simp only [List.length_cons] at hk; omega) (inv.set hr' hkn) hB' hK)
end

/-- The head: loads, and calls that keep old memory; the tail: whatever it does. -/
theorem wp_region_quiet_tail {P : Program} {id : Nat} {Q : Exit → Act → World → Prop} {a : Act} {w : World} {l : List Oper} (n : Nat) (hm : P.follows .mixedOrders = true) (hB : Region.lexTailB .any l.toArray n = true)
    (h : wpQuiet P l.toArray (fun W => Below w.heap.size w W) (fun a' => ∀ W, Below w.heap.size w W → wpList P l.toArray Q (l.drop n) a' W) (l.take n) a) : (Code.region id l.toArray true).wp P Q a w := by
  simp only [Region.lexTailB, Bool.and_eq_true, decide_eq_true_eq] at hB
  obtain ⟨⟨⟨⟨hsel, hn⟩, hs⟩, hc⟩, hlex⟩ := hB
  have hn' : n < l.length := by simpa using hn
  have htl : (l.take n).length = n := by simp; omega
  have hdl : (l.drop n).length = l.toArray.size - n := by simp
  have inv0 : HeadInv .any l.toArray n (Array.replicate l.toArray.size false) :=
    ⟨by simp, fun j oj _ hl => (by rw [getD_replicate_false] at hl; cases hl), fun t _ ht => getD_in (by simpa using ht) (getD_replicate_false _ _)⟩
  have H := wpAnyQL_lex (md := .any) (g := l.toArray.size - n) hsel hs hc hn (l.take n) 0 _ a (fun j hj => by
    have hj' : j < n := by rw [htl] at hj; exact hj
    simp [hj']) (by simpa using htl) inv0 (by rw [htl]; exact hlex) h
  refine wp_region_any hm ?_
  have := wpAny_of_qhead (Q' := Q) (g := l.toArray.size - n) (fun listed a' W hW hL => by
    have := wpAny_of_seq (md := .any) (Q' := Q) (l.drop n) n listed a' W (fun j => by simp [List.getElem?_drop]) (by rw [hdl]; exact hL.1) (hL.2 W hW)
    rwa [hdl] at this) _ _ _ { w with drawn := w.drawn + 1 } ⟨rfl, rfl, rfl, Nat.le_refl _, fun _ _ => rfl⟩ H
  rw [htl, show n + (l.toArray.size - n) = l.toArray.size by omega] at this
  exact this
end Go.Proofs.YtjajoiahgfafgaaDoor
end
