/- Texts joined: PlainEsc, QuietTail, Lit4, LitBase. -/
import Derived.Test.YtgppfcaghjbjmaaGreatDoorBLitBase4
import Derived.Test.YtgppfcaghjbjmaaGreatDoorBLitBase1
import Derived.StillTail
import Derived.Deep.QuietTactic
import Derived.Test.YtgppfcaghjbjmaaGreatDoorBLitBase2
import Derived.Test.YtgppfcaghjbjmaaGreatDoorShelf
import Derived.Lib.SlBuf
import Derived.BigQuiet
import Derived.Deep.DeepCutAuto
import Derived.Deep.CutBlock
set_option linter.unusedSimpArgs false
set_option linter.unusedVariables false

/- A path's letters made a pattern's. -/
section
set_option linter.unusedVariables false
namespace Go.Proofs.YtgppfcaghjbjmaaGreatDoor
namespace Plain

def isKey (c : UInt8) : Bool := c == 92 || c == 91 || c == 63 || c == 42
def escC (c : UInt8) : List UInt8 := if isKey c then [92, c] else [c]
def escM (s : List UInt8) : List UInt8 := s.flatMap escC

theorem escM_len (s : List UInt8) : (escM s).length = s.length + s.countP isKey := by
  induction s with
  | nil => rfl
  | cons c r ih =>
    unfold escM at ih ⊢
    rw [List.flatMap_cons, List.length_append, ih, List.countP_cons]
    unfold escC
    by_cases h : isKey c = true
    · rw [if_pos h, if_pos h]; simp; omega
    · rw [if_neg h, if_neg h]; simp; omega
theorem escM_take {s : List UInt8} {i : Nat} (h : i < s.length) : escM (s.take (i + 1)) = escM (s.take i) ++ escC s[i] := by
  unfold escM
  rw [List.take_add_one, List.getElem?_eq_getElem h, List.flatMap_append]
  simp
theorem countP_take {s : List UInt8} {i : Nat} (h : i < s.length) : (s.take (i + 1)).countP isKey = (s.take i).countP isKey + (if isKey s[i] then 1 else 0) := by
  rw [List.take_add_one, List.getElem?_eq_getElem h, List.countP_append]
  simp [List.countP_cons]
theorem countP_le (s : List UInt8) (i : Nat) : (s.take i).countP isKey ≤ s.length := by
  have := List.countP_le_length (p := isKey) (l := s.take i)
  rw [List.length_take] at this
  omega
theorem escM_id {s : List UInt8} (h : s.countP isKey = 0) : escM s = s := by
  induction s with
  | nil => rfl
  | cons c r ih =>
    rw [List.countP_cons] at h
    have hc : ¬ isKey c = true := by intro e; rw [if_pos e] at h; omega
    rw [if_neg hc] at h
    unfold escM at ih ⊢
    rw [List.flatMap_cons, ih (by omega)]
    unfold escC
    rw [if_neg hc]
    rfl
theorem count4 (s : List UInt8) : s.count 92 + s.count 91 + s.count 63 + s.count 42 = s.countP isKey := by
  induction s with
  | nil => rfl
  | cons c r ih =>
    rw [List.count_cons, List.count_cons, List.count_cons, List.count_cons, List.countP_cons, ← ih]
    by_cases h1 : c = 92
    · subst h1; simp [isKey]; omega
    · by_cases h2 : c = 91
      · subst h2; simp [isKey]; omega
      · by_cases h3 : c = 63
        · subst h3; simp [isKey]; omega
        · by_cases h4 : c = 42
          · subst h4; simp [isKey]; omega
          · have : isKey c = false := by unfold isKey; simp [h1, h2, h3, h4]
            simp [this, h1, h2, h3, h4]
end Plain
end Go.Proofs.YtgppfcaghjbjmaaGreatDoor
end

/- A region that draws its order: a head whose operations each yield one value in every world of a class, and a tail that comes behind it in one order alone. -/
section
namespace Go.Proofs.YtgppfcaghjbjmaaGreatDoor
open Go.RowKit

section
variable {P : Program} {ops : Array Oper} {md : Region.Mode} {C : World → Prop}
def wpAnyQL (P : Program) (md : Region.Mode) (ops : Array Oper) (C : World → Prop) (n : Nat) (L : Array Bool → Act → Prop) : Nat → Array Bool → Act → Prop
  | 0, listed, a => L listed a
  | f + 1, listed, a => Region.ready md ops listed ≠ [] ∧ ∀ i ∈ Region.ready md ops listed, i < n ∧ qOp P ops C i (wpAnyQL P md ops C n L f (listed.setIfInBounds i true)) a

theorem wpAny_of_qhead {n g : Nat} {L : Array Bool → Act → Prop} {Q' : Exit → Act → World → Prop} (hL : ∀ listed a w, C w → L listed a → wpAny P md ops Q' g listed a w) :
    ∀ (f : Nat) (listed : Array Bool) (a : Act) (w : World), C w → wpAnyQL P md ops C n L f listed a → wpAny P md ops Q' (f + g) listed a w
  | 0, listed, a, w, hw, h => by rw [Nat.zero_add]; exact hL _ _ _ hw h
  | f + 1, listed, a, w, hw, h => by
    rw [show f + 1 + g = (f + g) + 1 by omega]
    exact ⟨fun h0 => absurd h0 h.1, fun i hi => wpOp_of_qOp hw (fun a' w' hw' h' => wpAny_of_qhead hL f _ a' w' hw' h') (h.2 i hi).2⟩

theorem wpAnyQL_first {n i : Nat} {oi : Oper} {v : Value} {L : Array Bool → Act → Prop} (hi : ops[i]? = some oi) (hsel : ∀ (j : Nat) (o : Oper) cs b, ops[j]? = some o → o.op ≠ .select cs b)
    (hs : Region.sinkB md ops n = true) (hc : Region.chainB md ops n = true) (hn : n < ops.size) (hin : i < n)
    (hdone : ∀ listed a, L listed a → ∀ j ∈ Region.ready md ops listed, n ≤ j) :
    ∀ (f : Nat) (listed : Array Bool) (a : Act), HeadInv md ops n listed →
      (∀ j oj, ops[j]? = some oj → j ≠ i → listed.getD j true = false → (∀ e ∈ oj.after, Region.binds md e = true → e.on ≠ i) → oi.apart ops oj = true) →
      i ∈ Region.ready md ops listed → YieldsIn P ops C oi v a →
      wpAnyQL P md ops C n L f (listed.setIfInBounds i true) (a.put oi.dst v) → wpAnyQL P md ops C n L (f + 1) listed a := by
  intro f
  induction f with
  | zero =>
    intro listed a inv _ hr hy H
    have hun := (mem_ready.1 hr).1
    refine ⟨fun h => (by rw [h] at hr; cases hr), fun j hj => ?_⟩
    have hjn : j < n := by
      rcases Nat.lt_or_ge j n with h | h
      · exact h
      · exact absurd hj (tail_waits hs hc hn inv _ i rfl hin hun j h)
    refine ⟨hjn, ?_⟩
    by_cases hji : j = i
    · subst hji; exact hy.qOp hi H
    · have := hdone _ _ H j (ready_mono hj hji)
      omega
  | succ f ih =>
    intro listed a inv hfree hr hy H
    have hun := (mem_ready.1 hr).1
    refine ⟨fun h => (by rw [h] at hr; cases hr), fun j hj => ?_⟩
    have hjn : j < n := by
      rcases Nat.lt_or_ge j n with h | h
      · exact h
      · exact absurd hj (tail_waits hs hc hn inv _ i rfl hin hun j h)
    refine ⟨hjn, ?_⟩
    by_cases hji : j = i
    · subst hji; exact hy.qOp hi H
    · have h1 := (H.2 j (ready_mono hj hji)).2
      obtain ⟨hjun, oj, hoj, hall⟩ := mem_ready.1 hj
      have hnot : ∀ e ∈ oj.after, Region.binds md e = true → e.on ≠ i := fun e he hb heq => by
        have h1 := hall e he hb
        rw [heq, getD_both hun] at h1
        cases h1
      have h2 := qOp_put hoj (hfree j oj hoj hji hjun hnot) (fun cs b => hsel i oi cs b hi) (fun cs b => hsel j oj cs b hoj) hy h1
      have hfree' : ∀ k ok, ops[k]? = some ok → k ≠ i → (listed.setIfInBounds j true).getD k true = false →
          (∀ e ∈ ok.after, Region.binds md e = true → e.on ≠ i) → oi.apart ops ok = true := fun k ok hk hki hun hno => by
        refine hfree k ok hk hki ?_ hno
        by_cases hjk : j = k
        · subst hjk; exact hjun
        · rw [getD_set_ne true hjk] at hun; exact hun
      refine qOp_mono (fun a' h3 => ih (listed.setIfInBounds j true) a' (inv.set hj hjn) hfree' (ready_mono hr (Ne.symm hji)) h3.1 ?_) h2
      rw [Array.setIfInBounds_comm _ _ hji]
      exact h3.2

theorem wpAnyQL_lex {n g : Nat} {Lq : Act → Prop} (hsel : Region.noSelect ops = true) (hs : Region.sinkB md ops n = true) (hc : Region.chainB md ops n = true) (hn : n < ops.size) :
    ∀ (l : List Oper) (k : Nat) (listed : Array Bool) (a : Act), (∀ j, j < l.length → l[j]? = ops[k + j]?) → k + l.length = n → HeadInv md ops n listed →
    Region.lexHead md ops g l.length k listed = true → wpQuiet P ops C Lq l a →
    wpAnyQL P md ops C n (fun listed' a' => Region.seqB md ops g n listed' = true ∧ Lq a') l.length listed a
  | [], k, listed, a, _, hk, _, hB, h => by
    have : k = n := by simpa using hk
    subst this
    exact ⟨by simpa [Region.lexHead] using hB, h⟩
  | o :: l, k, listed, a, hl, hk, inv, hB, h => by
    have h0 : ops[k]? = some o := by simpa using (hl 0 (by simp)).symm
    simp only [List.length_cons, Region.lexHead, Bool.and_eq_true] at hB
    obtain ⟨⟨hr, hf⟩, hB'⟩ := hB
    have hkn : k < n := by simp only [List.length_cons] at hk; omega
    have hr' : k ∈ Region.ready md ops listed := by simpa using hr
    have hst : qOp P ops C k (wpQuiet P ops C Lq l) a := by unfold qOp; simp only [h0]; exact h
    obtain ⟨v, hy, hK⟩ := yieldsIn_of_qOp h0 hst
    exact wpAnyQL_first h0 (Region.noSelect_spec hsel) hs hc hn hkn (fun listed' a' hL => seqB_ready hL.1) l.length listed a inv (Region.free_spec h0 hf) hr' hy
      (wpAnyQL_lex hsel hs hc hn l (k + 1) _ _ (fun j hj => by have := hl (j + 1) (by simp; omega); simpa [Nat.add_assoc, Nat.add_comm 1 j] using this) (by simp only [List.length_cons] at hk; omega) (inv.set hr' hkn) hB' hK)
end

/-- The head: loads, and calls that keep old memory; the tail: whatever it does. -/
theorem wp_region_quiet_tail {P : Program} {id : Nat} {Q : Exit → Act → World → Prop} {a : Act} {w : World} {l : List Oper} (n : Nat) (hm : P.follows .mixedOrders = true) (hB : Region.lexTailB .any l.toArray n = true)
    (h : wpQuiet P l.toArray (fun W => Below w.heap.size w W) (fun a' => ∀ W, Below w.heap.size w W → wpList P l.toArray Q (l.drop n) a' W) (l.take n) a) : (Code.region id l.toArray true).wp P Q a w := by
  simp only [Region.lexTailB, Bool.and_eq_true, decide_eq_true_eq] at hB
  obtain ⟨⟨⟨⟨hsel, hn⟩, hs⟩, hc⟩, hlex⟩ := hB
  have hn' : n < l.length := by simpa using hn
  have htl : (l.take n).length = n := by simp; omega
  have hdl : (l.drop n).length = l.toArray.size - n := by simp
  have inv0 : HeadInv .any l.toArray n (Array.replicate l.toArray.size false) :=
    ⟨by simp, fun j oj _ hl => (by rw [getD_replicate_false] at hl; cases hl), fun t _ ht => getD_in (by simpa using ht) (getD_replicate_false _ _)⟩
  have H := wpAnyQL_lex (md := .any) (g := l.toArray.size - n) hsel hs hc hn (l.take n) 0 _ a (fun j hj => by
    have hj' : j < n := by rw [htl] at hj; exact hj
    simp [hj']) (by simpa using htl) inv0 (by rw [htl]; exact hlex) h
  refine wp_region_any hm ?_
  have := wpAny_of_qhead (Q' := Q) (g := l.toArray.size - n) (fun listed a' W hW hL => by
    have := wpAny_of_seq (md := .any) (Q' := Q) (l.drop n) n listed a' W (fun j => by simp [List.getElem?_drop]) (by rw [hdl]; exact hL.1) (hL.2 W hW)
    rwa [hdl] at this) _ _ _ { w with drawn := w.drawn + 1 } ⟨rfl, rfl, rfl, Nat.le_refl _, fun _ _ => rfl⟩ H
  rw [htl, show n + (l.toArray.size - n) = l.toArray.size by omega] at this
  exact this
end Go.Proofs.YtgppfcaghjbjmaaGreatDoor
end

/- The table's Replace. -/
section
set_option linter.unusedVariables false
set_option linter.unusedSimpArgs false
namespace Go.Proofs.YtgppfcaghjbjmaaGreatDoor
open Go.RowKit Plain

theorem TabL.cellNo {lo g : Nat} {W : World} (h : TabL lo g W) (c : UInt8) (hc : isKey c = false) : W.cell? ⟨g, c.toNat, none⟩ = some (.slice none 0 0) := by
  refine h.2.2.1 c.toNat (UInt8.toNat_lt c) fun j hj e => ?_
  have e2 : c = keys.getD j 0 := UInt8.toNat_inj.1 (by rw [← e]; rfl)
  subst e2
  match j, hj with
  | 0, _ => cases hc
  | 1, _ => cases hc
  | 2, _ => cases hc
  | 3, _ => cases hc
theorem TabL.cellYes {lo g : Nat} {W : World} (h : TabL lo g W) (c : UInt8) (hc : isKey c = true) : ∃ q cp, W.cell? ⟨g, c.toNat, none⟩ = some (.slice (some ⟨q, 0, none⟩) 2 cp) ∧ lo ≤ q ∧ W.cell? ⟨q, 0, none⟩ = some (.int .u8 92) ∧ W.cell? ⟨q, 1, none⟩ = some (.int .u8 c.toNat) := by
  have hj : ∃ j, j < 4 ∧ c = keys.getD j 0 := by
    unfold isKey at hc
    simp only [Bool.or_eq_true, beq_iff_eq] at hc
    rcases hc with ((rfl | rfl) | rfl) | rfl
    · exact ⟨0, by omega, rfl⟩
    · exact ⟨1, by omega, rfl⟩
    · exact ⟨2, by omega, rfl⟩
    · exact ⟨3, by omega, rfl⟩
  obtain ⟨j, hj, rfl⟩ := hj
  exact h.2.2.2 j hj

theorem info_u8E : (Tryz.prog.info? 5).map (fun i => (i.zero, i.size, i.bytes)) = some (some (.int .u8 0), 1, 1) := by kernel_rfl
theorem Buf.keep {w0 wr W : World} {h N : Nat} {acc : List UInt8} (hb : Lib.Buf w0 wr h N acc) (hlt : h < wr.heap.size) (hW : Below wr.heap.size wr W) : Lib.Buf w0 W h N acc := by
  have hh := hW.block h hlt
  have hc : ∀ j, W.cell? ⟨h, j, none⟩ = wr.cell? ⟨h, j, none⟩ := fun j => by unfold World.cell?; simp only [hh]
  have hf : ∀ j, W.frozen? ⟨h, j, none⟩ = wr.frozen? ⟨h, j, none⟩ := fun j => by unfold World.frozen?; simp only [hh]
  exact ⟨hb.below.trans (hW.mono (by omega)), fun j hj => by rw [hc]; exact hb.there j hj, fun j hj => by rw [hf]; exact hb.free j hj, fun j x hx => by rw [hc]; exact hb.holds j x hx, hb.fits⟩
theorem Buf.put {w0 wr : World} {h N : Nat} {acc : List UInt8} (hb : Lib.Buf w0 wr h N acc) (c : UInt8) (hN : acc.length < N) : Lib.Buf w0 (wr.setCell ⟨h, acc.length, none⟩ (.int .u8 c.toNat)) h N (acc ++ [c]) := by
  obtain ⟨v, hv⟩ := Option.isSome_iff_exists.1 (hb.there _ hN)
  have hs := World.cell?_setCell_same wr ⟨h, acc.length, none⟩ (.int .u8 (c.toNat : Int)) hv
  have ho : ∀ j, j ≠ acc.length → (wr.setCell ⟨h, acc.length, none⟩ (.int .u8 (c.toNat : Int))).cell? ⟨h, j, none⟩ = wr.cell? ⟨h, j, none⟩ := fun j hj => World.cell?_setCell_other _ _ _ _ (by intro e; injection e with _ h2; exact hj h2.symm)
  refine ⟨hb.below.setCell (p := ⟨h, acc.length, none⟩) (Nat.le_refl _) _, fun j hj => ?_, fun j hj => (World.frozen?_setCell wr _ _ _).trans (hb.free j hj), fun j x hx => ?_, by simp; omega⟩
  · by_cases e : j = acc.length
    · subst e; rw [hs]; rfl
    · rw [ho j e]; exact hb.there j hj
  · by_cases e : j = acc.length
    · subst e
      rw [List.getElem?_append_right (Nat.le_refl _), Nat.sub_self] at hx
      simp at hx
      subst hx
      exact hs
    · rw [ho j e]
      have hl : j < acc.length := by
        have := (List.getElem?_eq_some_iff.1 hx).1
        simp at this
        omega
      rw [List.getElem?_append_left hl] at hx
      exact hb.holds j x hx
theorem Buf.text {P : Program} {w0 wr : World} {h : Nat} {acc : List UInt8} (src e dst : TypeId) (hs : P.underlying src = some (.slice e)) (he : P.underlying e = some (.int .u8)) (hd : P.underlying dst = some .string) (hb : Lib.Buf w0 wr h acc.length acc) :
    (convert src dst (.slice (some ⟨h, 0, none⟩) acc.length acc.length)).run P wr = .ok (.string ⟨acc.toArray⟩) wr := by
  have e1 : (acc.map fun c => (c.toNat : Int)).map (fun n => UInt8.ofNat n.toNat) = acc := by simp [Function.comp_def]
  have h1 : (convert src dst (.slice (some ⟨h, 0, none⟩) acc.length acc.length)).run P wr = .ok (.string ⟨((acc.map fun c => (c.toNat : Int)).map (fun n => UInt8.ofNat n.toNat)).toArray⟩) wr :=
    by
    have h2 := run_convert_bytes_arg (P := P) wr src e hs he h 0 acc.length acc.length (acc.map fun c : UInt8 => (c.toNat : Int)) (by simp) (fun i hi => by
      have hi' : i < acc.length := by simpa using hi
      have := hb.holds i acc[i] (List.getElem?_eq_getElem hi')
      simpa [hi'] using this) dst hd
    exact h2
  rw [e1] at h1
  exact h1

def cntK (s : List UInt8) : Nat → Nat
  | 0 => 0
  | k + 1 => cntK s k + s.count (keys.getD k 0)

set_option maxRecDepth 100000 in
set_option maxHeartbeats 4000000 in
theorem bsr_Replace (lo g : Nat) (s : List UInt8) (w : World) (hT : TabL lo g w) (hl : s.length ≤ 4096) :
    Calls Tryz.prog 144 #[.pointer (some ⟨g, 0, none⟩), .string ⟨s.toArray⟩] w (Ret w (.string ⟨(escM s).toArray⟩)) := by
  obtain ⟨A, c, h256, hR, hA⟩ := hT.2.1
  obtain ⟨ad, rfl, hr⟩ := hR.2 (by omega)
  have r0 : w.cell? ad = some (.string ⟨#[92]⟩) := hr 0 _ rfl
  have r1 : w.cell? ⟨ad.block, ad.off + 1, none⟩ = some (.string ⟨#[91]⟩) := hr 1 _ rfl
  have r2 : w.cell? ⟨ad.block, ad.off + 2, none⟩ = some (.string ⟨#[63]⟩) := hr 2 _ rfl
  have r3 : w.cell? ⟨ad.block, ad.off + 3, none⟩ = some (.string ⟨#[42]⟩) := hr 3 _ rfl
  have HT := Lib.hid hT
  have hcl := List.countP_le_length (p := isKey) (l := s)
  have h4 := count4 s
  have HC : ∀ (x : UInt8) (W : World), Calls Tryz.prog 32 #[.string ⟨s.toArray⟩, .string ⟨#[x]⟩] W fun e w' => e = .returned (.int .i64 (s.count x : Nat)) ∧ w' = W := fun x W => Tryz.strings_Count_one ⟨s.toArray⟩ x W
  clear hT hR hA hr
  go_enter Tryz.func144, Tryz.ntmps144
  go_upto_region 2 with fail
  go_cut [6] (fun t6 W => t6 = .bool false ∧ W = w)
  case first =>
    go_wp2_with (fail)
    go_meet
    exact ⟨rfl, rfl⟩
  case rest =>
  obtain ⟨rfl, rfl⟩ := hcut
  apply_assumption
  refine wp_seq_k fun KR hKR => ?_
  go_cut [5, 6] (fun t5 t6 W => t5 = .int .i64 ((s.length + s.countP isKey : Nat) : Int) ∧ t6 = .bool (decide (0 < s.countP isKey)) ∧ ∃ m, W = wc.drewN m)
  case first =>
    by_cases hS : 32 ≤ s.length
    · have hS' : decide ((32 : Int) ≤ s.length) = true := by simp; omega
      have hS2 : (32 : Int) ≤ s.length := by omega
      go_wp2_with (fail)
      go_loopw [5, 6, 32] (fun t5 t6 t32 W => ∃ k : Nat, k ≤ 4 ∧ t32 = .int .i64 (k : Nat) ∧ t5 = .int .i64 ((s.length + cntK s k : Nat) : Int) ∧ t6 = .bool (decide (0 < cntK s k)) ∧ ∃ m, W = wc.drewN m) (fun _ _ t32 _ => 4 - (intOf t32).toNat)
      case atStart => exact ⟨0, by omega, rfl, rfl, rfl, 0, rfl⟩
      case round =>
      obtain ⟨k, hk, rfl, rfl, rfl, nd, rfl⟩ := hrel
      match k, hk with
      | 0, _ =>
        obtain ⟨q, cp, d1, _, _, _⟩ := HT.out.cellYes 92 rfl
        rw [show (92 : UInt8).toNat = 92 from rfl] at d1
        go_wp2_with (go_at_call 32; refine (HC 92 _).mono ?_; rintro e w' ⟨rfl, rfl⟩)
        have hb : cntK s 0 + s.count 92 ≤ 4096 := by simp only [cntK, keys, List.getD_cons_zero, List.getD_cons_succ]; omega
        have hw : IntKind.i64.wrap ((s.length : Int) + (cntK s 0 : Int) + (s.count 92 : Int)) = ((s.length + (cntK s 0 + s.count 92) : Nat) : Int) := by
          rw [IntWalk.i64_in _ (by omega)]; omega
        go_wp2_with (go_at_call 32; refine (HC 92 _).mono ?_; rintro e w' ⟨rfl, rfl⟩)
        · have h0 : s.count 92 ≠ 0 := by
            first
              | omega
              | (have hh := ‹(((s.count 92 : Nat) : Int) != 0) = true›
                 intro e
                 rw [e] at hh
                 exact absurd hh (by decide))
          go_quiet (fail)
          go_wp2_with (fail)
          go_roundw
          case rel => exact ⟨0 + 1, by omega, rfl, by show _ = Value.int .i64 ((s.length + (cntK s 0 + s.count 92) : Nat) : Int); go_num, by rw [decide_eq_true (show 0 < cntK s (0 + 1) from (show 0 < cntK s 0 + s.count 92 by omega))], _, rfl⟩
          case measure => simp [intOf]
        · have h0 : s.count 92 = 0 := by
            rename_i hh
            simpa using hh
          have e1 : cntK s (0 + 1) = cntK s 0 := by show cntK s 0 + s.count 92 = _; omega
          go_roundw
          case rel => exact ⟨0 + 1, by omega, rfl, by rw [e1]; rfl, by rw [e1], _, rfl⟩
          case measure => simp [intOf]
      | 1, _ =>
        obtain ⟨q, cp, d1, _, _, _⟩ := HT.out.cellYes 91 rfl
        rw [show (91 : UInt8).toNat = 91 from rfl] at d1
        go_wp2_with (go_at_call 32; refine (HC 91 _).mono ?_; rintro e w' ⟨rfl, rfl⟩)
        have hb : cntK s 1 + s.count 91 ≤ 4096 := by simp only [cntK, keys, List.getD_cons_zero, List.getD_cons_succ]; omega
        have hw : IntKind.i64.wrap ((s.length : Int) + (cntK s 1 : Int) + (s.count 91 : Int)) = ((s.length + (cntK s 1 + s.count 91) : Nat) : Int) := by
          rw [IntWalk.i64_in _ (by omega)]; omega
        go_wp2_with (go_at_call 32; refine (HC 91 _).mono ?_; rintro e w' ⟨rfl, rfl⟩)
        · have h0 : s.count 91 ≠ 0 := by
            first
              | omega
              | (have hh := ‹(((s.count 91 : Nat) : Int) != 0) = true›
                 intro e
                 rw [e] at hh
                 exact absurd hh (by decide))
          go_quiet (fail)
          go_wp2_with (fail)
          go_roundw
          case rel => exact ⟨1 + 1, by omega, rfl, by show _ = Value.int .i64 ((s.length + (cntK s 1 + s.count 91) : Nat) : Int); go_num, by rw [decide_eq_true (show 0 < cntK s (1 + 1) from (show 0 < cntK s 1 + s.count 91 by omega))], _, rfl⟩
          case measure => simp [intOf]
        · have h0 : s.count 91 = 0 := by
            rename_i hh
            simpa using hh
          have e1 : cntK s (1 + 1) = cntK s 1 := by show cntK s 1 + s.count 91 = _; omega
          go_roundw
          case rel => exact ⟨1 + 1, by omega, rfl, by rw [e1]; rfl, by rw [e1], _, rfl⟩
          case measure => simp [intOf]
      | 2, _ =>
        obtain ⟨q, cp, d1, _, _, _⟩ := HT.out.cellYes 63 rfl
        rw [show (63 : UInt8).toNat = 63 from rfl] at d1
        go_wp2_with (go_at_call 32; refine (HC 63 _).mono ?_; rintro e w' ⟨rfl, rfl⟩)
        have hb : cntK s 2 + s.count 63 ≤ 4096 := by simp only [cntK, keys, List.getD_cons_zero, List.getD_cons_succ]; omega
        have hw : IntKind.i64.wrap ((s.length : Int) + (cntK s 2 : Int) + (s.count 63 : Int)) = ((s.length + (cntK s 2 + s.count 63) : Nat) : Int) := by
          rw [IntWalk.i64_in _ (by omega)]; omega
        go_wp2_with (go_at_call 32; refine (HC 63 _).mono ?_; rintro e w' ⟨rfl, rfl⟩)
        · have h0 : s.count 63 ≠ 0 := by
            first
              | omega
              | (have hh := ‹(((s.count 63 : Nat) : Int) != 0) = true›
                 intro e
                 rw [e] at hh
                 exact absurd hh (by decide))
          go_quiet (fail)
          go_wp2_with (fail)
          go_roundw
          case rel => exact ⟨2 + 1, by omega, rfl, by show _ = Value.int .i64 ((s.length + (cntK s 2 + s.count 63) : Nat) : Int); go_num, by rw [decide_eq_true (show 0 < cntK s (2 + 1) from (show 0 < cntK s 2 + s.count 63 by omega))], _, rfl⟩
          case measure => simp [intOf]
        · have h0 : s.count 63 = 0 := by
            rename_i hh
            simpa using hh
          have e1 : cntK s (2 + 1) = cntK s 2 := by show cntK s 2 + s.count 63 = _; omega
          go_roundw
          case rel => exact ⟨2 + 1, by omega, rfl, by rw [e1]; rfl, by rw [e1], _, rfl⟩
          case measure => simp [intOf]
      | 3, _ =>
        obtain ⟨q, cp, d1, _, _, _⟩ := HT.out.cellYes 42 rfl
        rw [show (42 : UInt8).toNat = 42 from rfl] at d1
        go_wp2_with (go_at_call 32; refine (HC 42 _).mono ?_; rintro e w' ⟨rfl, rfl⟩)
        have hb : cntK s 3 + s.count 42 ≤ 4096 := by simp only [cntK, keys, List.getD_cons_zero, List.getD_cons_succ]; omega
        have hw : IntKind.i64.wrap ((s.length : Int) + (cntK s 3 : Int) + (s.count 42 : Int)) = ((s.length + (cntK s 3 + s.count 42) : Nat) : Int) := by
          rw [IntWalk.i64_in _ (by omega)]; omega
        go_wp2_with (go_at_call 32; refine (HC 42 _).mono ?_; rintro e w' ⟨rfl, rfl⟩)
        · have h0 : s.count 42 ≠ 0 := by
            first
              | omega
              | (have hh := ‹(((s.count 42 : Nat) : Int) != 0) = true›
                 intro e
                 rw [e] at hh
                 exact absurd hh (by decide))
          go_quiet (fail)
          go_wp2_with (fail)
          go_roundw
          case rel => exact ⟨3 + 1, by omega, rfl, by show _ = Value.int .i64 ((s.length + (cntK s 3 + s.count 42) : Nat) : Int); go_num, by rw [decide_eq_true (show 0 < cntK s (3 + 1) from (show 0 < cntK s 3 + s.count 42 by omega))], _, rfl⟩
          case measure => simp [intOf]
        · have h0 : s.count 42 = 0 := by
            rename_i hh
            simpa using hh
          have e1 : cntK s (3 + 1) = cntK s 3 := by show cntK s 3 + s.count 42 = _; omega
          go_roundw
          case rel => exact ⟨3 + 1, by omega, rfl, by rw [e1]; rfl, by rw [e1], _, rfl⟩
          case measure => simp [intOf]
      | 4, _ =>
        have e4 : cntK s 4 = s.countP isKey := by
          show 0 + s.count 92 + s.count 91 + s.count 63 + s.count 42 = _
          omega
        rw [e4]
        go_wp2_with (fail)
        go_meet
        exact ⟨by simp, rfl, _, rfl⟩
      | _ + 5, hk => omega
    · have hS' : decide ((32 : Int) ≤ s.length) = false := by simp; omega
      have hS2 : ¬ (32 : Int) ≤ s.length := by omega
      go_wp2_with (fail)
      go_loopw [5, 6, 10] (fun t5 t6 t10 W => ∃ i : Nat, i ≤ s.length ∧ t10 = .int .i64 (i : Nat) ∧ t5 = .int .i64 ((s.length + (s.take i).countP isKey : Nat) : Int) ∧ t6 = .bool (decide (0 < (s.take i).countP isKey)) ∧ W = wc) (fun _ _ t10 _ => s.length - (intOf t10).toNat)
      case atStart => exact ⟨0, by omega, rfl, by simp, by simp, rfl⟩
      case round =>
      obtain ⟨i, hi, rfl, rfl, rfl, rfl⟩ := hrel
      by_cases hlt : i < s.length
      · have hk0 : (0 : Int) ≤ i := by omega
        have hki : (i : Int) < s.length := by omega
        have hcp := countP_take hlt
        have hle := countP_le s i
        have h256c : (s[i].toNat : Int) < 256 := by have := UInt8.toNat_lt s[i]; omega
        have hc0 : (0 : Int) ≤ s[i].toNat := by omega
        cases hkey : isKey s[i] with
        | true =>
          obtain ⟨q, cp, d1, _, _, _⟩ := HT.out.cellYes s[i] hkey
          rw [hkey, if_pos rfl] at hcp
          have hnq : ∀ W, (Go.binOp .neq 37 (.slice (some ⟨q, 0, none⟩) 2 cp) (.slice none 0 0)).run Tryz.prog W = .ok (.bool true) W := fun _ => rfl
          go_wp2_with (fail)
          go_roundw
          case rel => exact ⟨i + 1, by omega, by go_num, by rw [hcp]; go_num, by rw [hcp]; simp, trivial⟩
          case measure => simp [intOf]; omega
        | false =>
          have d1 := HT.out.cellNo s[i] hkey
          rw [hkey] at hcp
          simp only [Bool.false_eq_true, if_false, Nat.add_zero] at hcp
          have hnq : ∀ W, (Go.binOp .neq 37 (.slice none 0 0) (.slice none 0 0)).run Tryz.prog W = .ok (.bool false) W := fun _ => rfl
          go_wp2_with (fail)
          go_roundw
          case rel => exact ⟨i + 1, by omega, by go_num, by rw [hcp], by rw [hcp], trivial⟩
          case measure => simp [intOf]; omega
      · have hi' : i = s.length := by omega
        subst hi'
        rw [List.take_length]
        go_wp2_with (fail)
        go_meet
        exact ⟨rfl, rfl, 0, rfl⟩
  case rest =>
  obtain ⟨rfl, rfl, md, rfl⟩ := hcut
  apply_assumption
  clear r0 r1 r2 r3 h256 HC
  by_cases h0 : s.countP isKey = 0
  · rw [escM_id h0]
    have hd0 : decide (0 < s.countP isKey) = false := decide_eq_false (by omega)
    rw [hd0]
    go_wp2_with (fail)
    go_ret
    exact ⟨rfl, below_drewN (Below.refl _ _) md⟩
  · have hd0 : decide (0 < s.countP isKey) = true := decide_eq_true (by omega)
    have hN : (escM s).length ≤ 8192 := by rw [escM_len]; omega
    rw [hd0, ← escM_len]
    obtain ⟨iu, hiu, hz0, hz1, hz2⟩ := info_parts info_u8E
    have hmk : (Instr.makeSlice 37 (.int .i64 ((escM s).length : Int)) (.int .i64 ((escM s).length : Int))).run Tryz.prog (wc.drewN md) = .ok (.slice (some ⟨wc.heap.size, 0, none⟩) (escM s).length (escM s).length) ((wc.drewN md).alloc (.cells (madeCells #[.int .u8 0] (escM s).length) 5)) := by
      have := run_make (P := Tryz.prog) (wc.drewN md) 37 5 iu _ Tryz.underlying37 hiu hz0 .i64 .i64 (escM s).length (escM s).length (by omega) (by omega) (by rw [hz2]; omega) (by omega)
      rw [hz1, Nat.mul_one] at this
      simp only [Int.toNat_natCast] at this
      exact this
    have HBF : Hid (Lib.Buf (wc.drewN md) ((wc.drewN md).alloc (.cells (madeCells #[.int .u8 0] (escM s).length) 5)) wc.heap.size (escM s).length []) := Lib.hid (Lib.Buf.start (wc.drewN md) (madeCells #[.int .u8 0] (escM s).length) 5 (escM s).length 0 (by rw [size_madeCells]; simp))
    clear hiu hz0 hz1 hz2
    go_wp2_with (fail)
    have hsz : wc.heap.size < ((wc.drewN md).alloc (.cells (madeCells #[.int .u8 0] (escM s).length) 5)).heap.size := by simp
    go_loopw [13, 14] (fun t13 t14 W => ∃ i : Nat, i ≤ s.length ∧ t14 = .int .i64 (i : Nat) ∧ t13 = .int .i64 ((escM (s.take i)).length : Nat) ∧ Hid (Lib.Buf (wc.drewN md) W wc.heap.size (escM s).length (escM (s.take i))) ∧ wc.heap.size < W.heap.size) (fun _ t14 _ => s.length - (intOf t14).toNat)
    case atStart => exact ⟨0, by omega, rfl, rfl, HBF, hsz⟩
    case round =>
    clear HBF hsz
    obtain ⟨i, hi, rfl, rfl, HB, hsz⟩ := hrel
    by_cases hlt : i < s.length
    · have hk0 : (0 : Int) ≤ i := by omega
      have hki : (i : Int) < s.length := by omega
      have h256c : (s[i].toNat : Int) < 256 := by have := UInt8.toNat_lt s[i]; omega
      have hc0 : (0 : Int) ≤ s[i].toNat := by omega
      have hes := escM_take hlt
      have hlen : (escM (s.take (i + 1))).length ≤ (escM s).length := by
        rw [escM_len, escM_len, countP_take hlt]
        have h1 : (s.take (i + 1)).countP isKey ≤ s.countP isKey := (List.take_sublist (i + 1) s).countP_le
        rw [countP_take hlt] at h1
        simp
        omega
      cases hkey : isKey s[i] with
      | true =>
        obtain ⟨q, cp, d1, _, d3, d4⟩ := HT.out.cellYes s[i] hkey
        have d2 := HB.out.below.cell (World.block_lt_of_cell? _ _ d1) |>.trans d1
        have hec : escC s[i] = [92, s[i]] := by unfold escC; rw [hkey]; rfl
        rw [hec] at hes
        rw [hes, List.length_append] at hlen
        have hlen' : (escM (s.take i)).length + 2 ≤ (escM s).length := hlen
        have hnq : ∀ W, (Go.binOp .neq 37 (.slice (some ⟨q, 0, none⟩) 2 cp) (.slice none 0 0)).run Tryz.prog W = .ok (.bool true) W := fun _ => rfl
        have hsl : ∀ W, (Instr.slice 37 (.slice (some ⟨wc.heap.size, 0, none⟩) (escM s).length (escM s).length) (some (.int .i64 ((escM (s.take i)).length : Int))) none none).run Tryz.prog W = .ok (Lib.tailV wc.heap.size (escM s).length (escM (s.take i)).length) W :=
          fun W => Lib.run_slice_tailV W 37 5 Tryz.underlying37 (fun w => rfl) wc.heap.size (escM s).length (escM (s.take i)).length (by omega)
        have hv2 : Lib.HoldsBytes (wc.drewN md) (.slice (some ⟨q, 0, none⟩) 2 cp) [92, s[i]] := ⟨_, cp, rfl, (fun e => by cases e), fun a ha j x hx => by
          injection ha with ha
          subst ha
          match j, hx with
          | 0, hx => simp at hx; subst hx; exact d3
          | 1, hx => simp at hx; subst hx; exact d4
          | j + 2, hx => simp at hx⟩
        have HV := Lib.hid hv2
        have HES := Lib.hid hes
        have hj0 : ((escM (s.take i)).length : Int) < (escM s).length := by omega
        clear hes hlen d1 hv2 d3 d4
        go_wp2_with (fail)
        obtain ⟨W3, hr, hB3⟩ := Lib.copy_part (P := Tryz.prog) (wc.drewN md) wr.drew wc.heap.size (escM s).length (escM (s.take i)) [92, s[i]] (.slice (some ⟨q, 0, none⟩) 2 cp) 37 3 5 Tryz.underlying37 rfl (Nat.le_refl _) (Buf.keep HB.out hsz (Below.refl _ _).drew) HV.out hlen'
        rw [← HES.out] at hB3
        have HB3 := Lib.hid hB3
        have hsz3 : wc.heap.size < W3.heap.size := by
          obtain ⟨v0, hv0⟩ := Option.isSome_iff_exists.1 (hB3.there 0 (by omega))
          exact World.block_lt_of_cell? _ _ hv0
        clear hB3
        go_region
        go_wp2_with (fail)
        go_roundw
        case rel => exact ⟨i + 1, by omega, by go_num, by rw [HES.out, List.length_append]; go_num, HB3, hsz3⟩
        case measure => simp [intOf]; omega
      | false =>
        have d1 := HT.out.cellNo s[i] hkey
        have d2 := HB.out.below.cell (World.block_lt_of_cell? _ _ d1) |>.trans d1
        have hec : escC s[i] = [s[i]] := by unfold escC; rw [hkey]; rfl
        rw [hec] at hes
        rw [hes, List.length_append] at hlen
        have hlen' : (escM (s.take i)).length + 1 ≤ (escM s).length := hlen
        have hnq : ∀ W, (Go.binOp .neq 37 (.slice none 0 0) (.slice none 0 0)).run Tryz.prog W = .ok (.bool false) W := fun _ => rfl
        obtain ⟨v0, hv0⟩ := Option.isSome_iff_exists.1 (HB.out.there (escM (s.take i)).length (by omega))
        have hf0 := HB.out.free (escM (s.take i)).length (by omega)
        have HB2 := Lib.hid (Buf.put HB.out s[i] (by omega))
        have hj0 : ((escM (s.take i)).length : Int) < (escM s).length := by omega
        rw [← hes] at HB2
        have HES := Lib.hid hes
        clear hes hlen d1
        go_wp2_with (fail)
        go_roundw
        case rel => exact ⟨i + 1, by omega, by go_num, by rw [HES.out, List.length_append]; go_num, HB2, by simpa using hsz⟩
        case measure => simp [intOf]; omega
    · have hi' : i = s.length := by omega
      subst hi'
      rw [List.take_length] at HB ⊢
      have hcv := Buf.text (P := Tryz.prog) 37 5 9 Tryz.underlying37 Tryz.underlying5 Tryz.underlying9 HB.out
      go_wp2_with (fail)
      go_ret
      exact ⟨rfl, (below_drewN (Below.refl _ _) md).trans HB.out.below⟩
end Go.Proofs.YtgppfcaghjbjmaaGreatDoor
end

/- What the texts of the table share. -/
section

end
