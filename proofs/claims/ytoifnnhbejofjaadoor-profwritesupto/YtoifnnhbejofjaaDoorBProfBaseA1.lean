/- Texts joined: Lib, PlainRune, AnyBlank, Close, Words, Open. -/
import Derived.Test.YtoifnnhbejofjaaDoorRows
import Derived.WalkKit
import Derived.WalkSpells
import Derived.WalkLawsBesides
import Derived.BigQuiet
import Derived.Lib.Hide
import Derived.Lib.ValidLaws
import Derived.Test.YtoifnnhbejofjaaDoorShelf
import Derived.Laws.Runes
import Derived.Laws.RangeAny
import Derived.Lib.Builder
import Derived.WalkMore
import Derived.Deep.QuietTactic
import Derived.Lib.IndexAny
import Derived.Lib.OthersKept
import Derived.ProofKit
import Derived.OpenShut
import Derived.JoinedCond
import Derived.Laws.OwnMore
import Derived.Deep.CondSized
set_option linter.unusedSimpArgs false
set_option linter.unusedVariables false

/- General lemmas, over any program: a call that returns a value and leaves old memory as it was; a region that draws its order, at the class of the worlds that keep old memory. -/
section
namespace Go.Proofs.YtoifnnhbejofjaaDoor
open Go.RowKit

/-- The call returned v; old memory is as it was. -/
def Ret (w : World) (v : Value) (e : Ending) (w' : World) : Prop := e = .returned v ∧ Below w.heap.size w w'

theorem ret_int {k : IntKind} {a b : Int} (h : a = b) : Ending.returned (.int k a) = .returned (.int k b) := by rw [h]
theorem Ret.mk {w w' : World} {v : Value} (h : Below w.heap.size w w') : Ret w v (.returned v) w' := ⟨rfl, h⟩

theorem below_drewN {B : Nat} {a w : World} (h : Below B a w) (n : Nat) : Below B a (w.drewN n) := ⟨h.os, h.tape, h.output, h.size, h.block⟩

@[go_sem] theorem forall_below (w : World) (B : Nat) (p : Prop) : (∀ W, Below B w W → p) ↔ p := ⟨fun h => h w (Below.refl _ _), fun h _ _ => h⟩

theorem wp_region_below {P : Program} {id : Nat} {Q : Exit → Act → World → Prop} {a : Act} {w : World} {l : List Oper} (hm : P.follows .mixedOrders = true) (hB : Region.lexB .any l.toArray = true)
    (h : wpQuiet P l.toArray (fun W => Below w.heap.size w W) (fun a' => ∀ W, Below w.heap.size w W → Q .normal a' W) l a) : (Code.region id l.toArray true).wp P Q a w :=
  wp_region_quiet (C := fun W => Below w.heap.size w W) hm hB ⟨rfl, rfl, rfl, Nat.le_refl _, fun _ _ => rfl⟩ (by simpa using h)

/-- A byte of a string that is told by a list. -/
@[go_sem] theorem ba_get (l : List UInt8) (i : Nat) (h : i < (ByteArray.mk l.toArray).size) : (ByteArray.mk l.toArray)[i]'h = l[i]'(by simpa [ByteArray.size] using h) := rfl

@[go_sem] theorem ba_append (l m : List UInt8) : ByteArray.mk l.toArray ++ ByteArray.mk m.toArray = ByteArray.mk (l ++ m).toArray := by
  apply ByteArray.ext; simp

@[go_sem] theorem ba_extract (l : List UInt8) (a b : Nat) : (ByteArray.mk l.toArray).extract a b = ByteArray.mk ((l.drop a).take (b - a)).toArray := by
  apply ByteArray.ext; simp [List.extract]
@[go_sem] theorem take_rest (l : List UInt8) (a : Nat) : (l.drop a).take (l.length - a) = l.drop a := List.take_of_length_le (by simp)

/-- At a call in such a region. -/
theorem Ret.quiet {P : Program} {f : FuncId} {args : Array Value} {w W : World} {v : Value} (hW : Below w.heap.size w W) (h : Calls P f args W (Ret W v)) :
    Calls P f args W fun e w'' => e = .returned v ∧ Below w.heap.size w w'' :=
  h.mono fun _ _ ⟨he, hb⟩ => ⟨he, hW.trans (hb.mono hW.size)⟩

/-- A cell below, and its mark, behind a call: the two rules of the walk. -/
theorem bcell {W w1 : World} (hb : Below W.heap.size W w1) : (∀ b o, b < W.heap.size → w1.cell? ⟨b, o, none⟩ = W.cell? ⟨b, o, none⟩) ∧ (∀ b o, b < W.heap.size → w1.frozen? ⟨b, o, none⟩ = W.frozen? ⟨b, o, none⟩) :=
  ⟨fun b o h => hb.cell (p := ⟨b, o, none⟩) h, fun b o h => hb.frozen (p := ⟨b, o, none⟩) h⟩

/-- 'string(b)', b a block that has just been laid. -/
theorem run_convert_laid {P : Program} (w : World) (src e dst : TypeId) (hs : P.underlying src = some (.slice e)) (he : P.underlying e = some (.int .u8)) (hd : P.underlying dst = some .string) (xs : List Int) (n cap : Nat) (hn : n = xs.length) (m : Nat × Nat) :
    (convert src dst (.slice (some ⟨w.heap.size, 0, none⟩) n cap)).run P (w.alloc (.cells (xs.map (Value.int .u8)).toArray e m)) =
      .ok (.string ⟨(xs.map fun n => UInt8.ofNat n.toNat).toArray⟩) (w.alloc (.cells (xs.map (Value.int .u8)).toArray e m)) := by
  subst hn
  refine run_convert_bytes_arg _ src e hs he _ 0 _ cap xs rfl (fun i hi => ?_) dst hd
  have h := heap_alloc_new w (.cells (xs.map (Value.int .u8)).toArray e m)
  rw [Nat.zero_add, cell_of_row _ _ i _ e m h]
  simp [hi]

end Go.Proofs.YtoifnnhbejofjaaDoor
end

/- Plain laws of the reading of a rune. -/
section
set_option linter.unusedVariables false
set_option linter.unusedSimpArgs false
namespace Go.Proofs.YtoifnnhbejofjaaDoor.Plain
open Go.Lib

/-- how many bytes the rune has at which a text begins; 0: none -/
def runeW (l : List UInt8) : Nat := if (decodeL l).1 = 65533 ∧ (decodeL l).2 = 1 then 0 else (decodeL l).2
def runeN (m b0 b1 b2 b3 : Nat) : Nat := if (decodeN m b0 b1 b2 b3).1 = 65533 ∧ (decodeN m b0 b1 b2 b3).2 = 1 then 0 else (decodeN m b0 b1 b2 b3).2
theorem runeW_N (l : List UInt8) (k : Nat) : runeW (l.drop k) = runeN (l.length - k) (l.getD k 0).toNat (l.getD (k + 1) 0).toNat (l.getD (k + 2) 0).toNat (l.getD (k + 3) 0).toNat := by
  have e : decodeL (l.drop k) = decodeN (l.length - k) (l.getD k 0).toNat (l.getD (k + 1) 0).toNat (l.getD (k + 2) 0).toNat (l.getD (k + 3) 0).toNat := by
    rw [decodeL_N]
    simp [List.getD, List.getElem?_drop]
  unfold runeW runeN
  rw [e]
def vAt (l : List UInt8) (k v0 : Nat) : Nat → Nat
  | 0 => v0
  | 1 => v0
  | i + 2 => vAt l k v0 (i + 1) * 64 + ((l.getD (k + (i + 1)) 0).toNat - 128)
theorem vAt_one (l : List UInt8) (k v0 : Nat) : vAt l k v0 1 = v0 := rfl
theorem vAt_succ (l : List UInt8) (k v0 i : Nat) (h : 1 ≤ i) : vAt l k v0 (i + 1) = vAt l k v0 i * 64 + ((l.getD (k + i) 0).toNat - 128) := by
  obtain ⟨j, rfl⟩ : ∃ j, i = j + 1 := ⟨i - 1, by omega⟩
  rfl
theorem vAt_le (l : List UInt8) (k v0 : Nat) (h : v0 ≤ 31) : ∀ i, 1 ≤ i → i ≤ 4 → vAt l k v0 i ≤ 16777215 := by
  intro i h1 h2
  have b : ∀ j, (l.getD (k + j) 0).toNat < 256 := fun j => (l.getD (k + j) 0).toNat_lt
  have b1 := b 1
  have b2 := b 2
  have b3 := b 3
  have e2 : vAt l k v0 2 = _ := vAt_succ l k v0 1 (by omega)
  have e3 : vAt l k v0 3 = _ := vAt_succ l k v0 2 (by omega)
  have e4 : vAt l k v0 4 = _ := vAt_succ l k v0 3 (by omega)
  rw [vAt_one] at e2
  have : i = 1 ∨ i = 2 ∨ i = 3 ∨ i = 4 := by omega
  rcases this with rfl | rfl | rfl | rfl
  · rw [vAt_one]; omega
  · omega
  · omega
  · omega
def finW (n low v : Nat) : Nat := if v < low ∨ 1114111 < v ∨ (55296 ≤ v ∧ v ≤ 57343) then 0 else n

theorem runeW_asc (l : List UInt8) (k : Nat) (h : (l.getD k 0).toNat < 128) : runeW (l.drop k) = 1 := by
  rw [runeW_N]; unfold runeN decodeN; rw [if_pos h, if_neg (fun e => by have := e.1; simp only at this; omega)]
theorem runeW_bad (l : List UInt8) (k : Nat) (h : (128 ≤ (l.getD k 0).toNat ∧ (l.getD k 0).toNat < 194) ∨ 245 ≤ (l.getD k 0).toNat) : runeW (l.drop k) = 0 := by
  have := (l.getD k 0).toNat_lt
  rw [runeW_N]; unfold runeN; rw [decodeN_bad _ _ _ _ _ (by omega)]; rfl

set_option maxHeartbeats 1000000 in
theorem runeN_2 (m b0 b1 b2 b3 : Nat) (hlo : 194 ≤ b0) (hhi : b0 ≤ 223) (h1 : b1 < 256) (h2 : b2 < 256) (h3 : b3 < 256) :
    (m < 2 → 0 < m → runeN m b0 b1 b2 b3 = 0) ∧ (¬ m < 2 → ¬ (128 ≤ b1 ∧ b1 ≤ 191) → runeN m b0 b1 b2 b3 = 0) ∧ (¬ m < 2 → (128 ≤ b1 ∧ b1 ≤ 191) → runeN m b0 b1 b2 b3 = finW 2 128 ((b0 - 192) * 64 + (b1 - 128))) := by
  refine ⟨?_, ?_, ?_⟩
  all_goals
    intros
    unfold runeN
    try unfold finW
    generalize hd : decodeN m b0 b1 b2 b3 = d
    unfold decodeN at hd
    repeat' split at hd
    all_goals subst hd
    all_goals simp only [true_and, and_true, reduceIte]
    all_goals (repeat' split)
    all_goals first | rfl | omega

theorem runeW_2 (l : List UInt8) (k : Nat) (hk : k < l.length) (hlo : 194 ≤ (l[k]).toNat) (hhi : (l[k]).toNat ≤ 223) :
    (l.length < k + 2 → runeW (l.drop k) = 0) ∧ (∀ i, 1 ≤ i → i < 2 → ¬ l.length < k + 2 → ¬ (128 ≤ (l.getD (k + i) 0).toNat ∧ (l.getD (k + i) 0).toNat ≤ 191) → runeW (l.drop k) = 0) ∧
      (¬ l.length < k + 2 → (∀ j, 1 ≤ j → j < 2 → 128 ≤ (l.getD (k + j) 0).toNat ∧ (l.getD (k + j) 0).toNat ≤ 191) → runeW (l.drop k) = finW 2 128 (vAt l k ((l[k]).toNat - 192) 2)) := by
  have hg : l.getD k 0 = l[k] := by simp [List.getD, hk]
  have h := runeN_2 (l.length - k) (l.getD k 0).toNat (l.getD (k + 1) 0).toNat (l.getD (k + 2) 0).toNat (l.getD (k + 3) 0).toNat (by rw [hg]; exact hlo) (by rw [hg]; exact hhi) (UInt8.toNat_lt _) (UInt8.toNat_lt _) (UInt8.toNat_lt _)
  rw [← runeW_N, hg] at h
  refine ⟨fun hl => h.1 (by omega) (by omega), fun i h1 h2 hl hc => ?_, fun hl hc => ?_⟩
  · obtain rfl : i = 1 := by omega
    exact h.2.1 (by omega) hc
  · exact h.2.2 (by omega) (hc 1 (by omega) (by omega))

set_option maxHeartbeats 1000000 in
theorem runeN_3 (m b0 b1 b2 b3 : Nat) (hlo : 224 ≤ b0) (hhi : b0 ≤ 239) (h1 : b1 < 256) (h2 : b2 < 256) (h3 : b3 < 256) :
    (m < 3 → 0 < m → runeN m b0 b1 b2 b3 = 0) ∧ (¬ m < 3 → ¬ (128 ≤ b1 ∧ b1 ≤ 191) → runeN m b0 b1 b2 b3 = 0) ∧ (¬ m < 3 → ¬ (128 ≤ b2 ∧ b2 ≤ 191) → runeN m b0 b1 b2 b3 = 0) ∧ (¬ m < 3 → (128 ≤ b1 ∧ b1 ≤ 191) → (128 ≤ b2 ∧ b2 ≤ 191) → runeN m b0 b1 b2 b3 = finW 3 2048 (((b0 - 224) * 64 + (b1 - 128)) * 64 + (b2 - 128))) := by
  refine ⟨?_, ?_, ?_, ?_⟩
  all_goals
    intros
    unfold runeN
    try unfold finW
    generalize hd : decodeN m b0 b1 b2 b3 = d
    unfold decodeN at hd
    repeat' split at hd
    all_goals subst hd
    all_goals simp only [true_and, and_true, reduceIte]
    all_goals (repeat' split)
    all_goals first | rfl | omega

theorem runeW_3 (l : List UInt8) (k : Nat) (hk : k < l.length) (hlo : 224 ≤ (l[k]).toNat) (hhi : (l[k]).toNat ≤ 239) :
    (l.length < k + 3 → runeW (l.drop k) = 0) ∧ (∀ i, 1 ≤ i → i < 3 → ¬ l.length < k + 3 → ¬ (128 ≤ (l.getD (k + i) 0).toNat ∧ (l.getD (k + i) 0).toNat ≤ 191) → runeW (l.drop k) = 0) ∧
      (¬ l.length < k + 3 → (∀ j, 1 ≤ j → j < 3 → 128 ≤ (l.getD (k + j) 0).toNat ∧ (l.getD (k + j) 0).toNat ≤ 191) → runeW (l.drop k) = finW 3 2048 (vAt l k ((l[k]).toNat - 224) 3)) := by
  have hg : l.getD k 0 = l[k] := by simp [List.getD, hk]
  have h := runeN_3 (l.length - k) (l.getD k 0).toNat (l.getD (k + 1) 0).toNat (l.getD (k + 2) 0).toNat (l.getD (k + 3) 0).toNat (by rw [hg]; exact hlo) (by rw [hg]; exact hhi) (UInt8.toNat_lt _) (UInt8.toNat_lt _) (UInt8.toNat_lt _)
  rw [← runeW_N, hg] at h
  refine ⟨fun hl => h.1 (by omega) (by omega), fun i h1 h2 hl hc => ?_, fun hl hc => ?_⟩
  · have : i = 1 ∨ i = 2 := by omega
    rcases this with rfl | rfl
    · exact h.2.1 (by omega) hc
    · exact h.2.2.1 (by omega) hc
  · exact h.2.2.2 (by omega) (hc 1 (by omega) (by omega)) (hc 2 (by omega) (by omega))

set_option maxHeartbeats 1000000 in
theorem runeN_4 (m b0 b1 b2 b3 : Nat) (hlo : 240 ≤ b0) (hhi : b0 ≤ 244) (h1 : b1 < 256) (h2 : b2 < 256) (h3 : b3 < 256) :
    (m < 4 → 0 < m → runeN m b0 b1 b2 b3 = 0) ∧ (¬ m < 4 → ¬ (128 ≤ b1 ∧ b1 ≤ 191) → runeN m b0 b1 b2 b3 = 0) ∧ (¬ m < 4 → ¬ (128 ≤ b2 ∧ b2 ≤ 191) → runeN m b0 b1 b2 b3 = 0) ∧ (¬ m < 4 → ¬ (128 ≤ b3 ∧ b3 ≤ 191) → runeN m b0 b1 b2 b3 = 0) ∧ (¬ m < 4 → (128 ≤ b1 ∧ b1 ≤ 191) → (128 ≤ b2 ∧ b2 ≤ 191) → (128 ≤ b3 ∧ b3 ≤ 191) → runeN m b0 b1 b2 b3 = finW 4 65536 ((((b0 - 240) * 64 + (b1 - 128)) * 64 + (b2 - 128)) * 64 + (b3 - 128))) := by
  refine ⟨?_, ?_, ?_, ?_, ?_⟩
  all_goals
    intros
    unfold runeN
    try unfold finW
    generalize hd : decodeN m b0 b1 b2 b3 = d
    unfold decodeN at hd
    repeat' split at hd
    all_goals subst hd
    all_goals simp only [true_and, and_true, reduceIte]
    all_goals (repeat' split)
    all_goals first | rfl | omega

theorem runeW_4 (l : List UInt8) (k : Nat) (hk : k < l.length) (hlo : 240 ≤ (l[k]).toNat) (hhi : (l[k]).toNat ≤ 244) :
    (l.length < k + 4 → runeW (l.drop k) = 0) ∧ (∀ i, 1 ≤ i → i < 4 → ¬ l.length < k + 4 → ¬ (128 ≤ (l.getD (k + i) 0).toNat ∧ (l.getD (k + i) 0).toNat ≤ 191) → runeW (l.drop k) = 0) ∧
      (¬ l.length < k + 4 → (∀ j, 1 ≤ j → j < 4 → 128 ≤ (l.getD (k + j) 0).toNat ∧ (l.getD (k + j) 0).toNat ≤ 191) → runeW (l.drop k) = finW 4 65536 (vAt l k ((l[k]).toNat - 240) 4)) := by
  have hg : l.getD k 0 = l[k] := by simp [List.getD, hk]
  have h := runeN_4 (l.length - k) (l.getD k 0).toNat (l.getD (k + 1) 0).toNat (l.getD (k + 2) 0).toNat (l.getD (k + 3) 0).toNat (by rw [hg]; exact hlo) (by rw [hg]; exact hhi) (UInt8.toNat_lt _) (UInt8.toNat_lt _) (UInt8.toNat_lt _)
  rw [← runeW_N, hg] at h
  refine ⟨fun hl => h.1 (by omega) (by omega), fun i h1 h2 hl hc => ?_, fun hl hc => ?_⟩
  · have : i = 1 ∨ i = 2 ∨ i = 3 := by omega
    rcases this with rfl | rfl | rfl
    · exact h.2.1 (by omega) hc
    · exact h.2.2.1 (by omega) hc
    · exact h.2.2.2.1 (by omega) hc
  · exact h.2.2.2.2 (by omega) (hc 1 (by omega) (by omega)) (hc 2 (by omega) (by omega)) (hc 3 (by omega) (by omega))

/-- valid: rune by rune -/
theorem validD_rune (l : List UInt8) (k : Nat) (hk : k < l.length) : validD (l.drop k) = if runeW (l.drop k) = 0 then false else validD (l.drop (k + runeW (l.drop k))) := by
  have hne : l.drop k ≠ [] := by intro e; have := congrArg List.length e; simp at this; omega
  have hw := decodeL_width (l.drop k)
  have hpos : 0 < (l.drop k).length := by simp; omega
  rw [validD_step _ hne]
  unfold runeW
  split
  · simp
  · rw [if_neg (by omega), List.drop_drop]
set_option maxHeartbeats 1000000 in
theorem runeN_le (m b0 b1 b2 b3 : Nat) (hm : 0 < m) : runeN m b0 b1 b2 b3 ≤ m := by
  unfold runeN
  generalize hd : decodeN m b0 b1 b2 b3 = d
  unfold decodeN at hd
  repeat' split at hd
  all_goals subst hd
  all_goals simp only [true_and, and_true]
  all_goals (repeat' split)
  all_goals omega
theorem runeW_le (l : List UInt8) (k : Nat) (hk : k < l.length) : runeW (l.drop k) ≤ l.length - k := by
  rw [runeW_N]; exact runeN_le _ _ _ _ _ (by omega)
/-- a rune from 128 on, where a text is ranged over -/
theorem dec_hi (l : List UInt8) (i : Nat) (hi : i < l.length) (h : 128 ≤ (l.getD i 0).toNat) :
    128 ≤ (Utf8.decode ⟨l.toArray⟩ i).1 ∧ (Utf8.decode ⟨l.toArray⟩ i).1 ≤ 1114111 ∧ Utf8.valid ((Utf8.decode ⟨l.toArray⟩ i).1 : Int) = true ∧ 1 ≤ (Utf8.decode ⟨l.toArray⟩ i).2 ∧ i + (Utf8.decode ⟨l.toArray⟩ i).2 ≤ l.length ∧
      ∀ j, i ≤ j → j < i + (Utf8.decode ⟨l.toArray⟩ i).2 → 128 ≤ (l.getD j 0).toNat := by
  rw [decode_N]
  simp only [List.toList_toArray]
  have k0 := (l.getD i 0).toNat_lt
  have k1 := (l.getD (i + 1) 0).toNat_lt
  have k2 := (l.getD (i + 2) 0).toNat_lt
  have k3 := (l.getD (i + 3) 0).toNat_lt
  have hj : ∀ (k : Nat), (∀ m, m < k → 128 ≤ (l.getD (i + m) 0).toNat) → ∀ j, i ≤ j → j < i + k → 128 ≤ (l.getD j 0).toNat := fun k hk j h1 h2 => by
    have := hk (j - i) (by omega)
    rwa [show i + (j - i) = j by omega] at this
  generalize hx0 : l.getD i 0 = x0 at *
  generalize hx1 : l.getD (i + 1) 0 = x1 at *
  generalize hx2 : l.getD (i + 2) 0 = x2 at *
  generalize hx3 : l.getD (i + 3) 0 = x3 at *
  unfold Utf8.valid
  rcases decodeN_shape (l.length - i) x0.toNat x1.toNat x2.toNat x3.toNat with ⟨c, e⟩ | ⟨c1, c2, c3, cv, e⟩ | ⟨c1, c2, c3, c4, cv, cs, e⟩ | ⟨c1, c2, c3, c4, c5, cv, cw, e⟩ | e
  · omega
  · rw [e]
    refine ⟨by simp only; omega, by simp only; omega, by simp; omega, by simp, by simp only; omega, hj _ (fun m hm => ?_)⟩
    have : m = 0 ∨ m = 1 := by simp only at hm; omega
    rcases this with rfl | rfl
    · rw [Nat.add_zero, hx0]; omega
    · rw [hx1]; omega
  · rw [e]
    refine ⟨by simp only; omega, by simp only; omega, by simp; omega, by simp, by simp only; omega, hj _ (fun m hm => ?_)⟩
    have : m = 0 ∨ m = 1 ∨ m = 2 := by simp only at hm; omega
    rcases this with rfl | rfl | rfl
    · rw [Nat.add_zero, hx0]; omega
    · rw [hx1]; omega
    · rw [hx2]; omega
  · rw [e]
    refine ⟨by simp only; omega, by simp only; omega, by simp; omega, by simp, by simp only; omega, hj _ (fun m hm => ?_)⟩
    have : m = 0 ∨ m = 1 ∨ m = 2 ∨ m = 3 := by simp only at hm; omega
    rcases this with rfl | rfl | rfl | rfl
    · rw [Nat.add_zero, hx0]; omega
    · rw [hx1]; omega
    · rw [hx2]; omega
    · rw [hx3]; omega
  · rw [e]
    refine ⟨by simp, by simp, by simp, by simp, by simp only; omega, hj _ (fun m hm => ?_)⟩
    obtain rfl : m = 0 := by simp only at hm; omega
    rw [Nat.add_zero, hx0]; omega
theorem dec_lo (l : List UInt8) (i : Nat) (h : (l.getD i 0).toNat < 128) : Utf8.decode ⟨l.toArray⟩ i = ((l.getD i 0).toNat, 1) := by
  rw [decode_N]; simp only [List.toList_toArray]; exact decodeN_ascii _ _ _ _ _ h
end Go.Proofs.YtoifnnhbejofjaaDoor.Plain
end

/- strings.IndexAny for the three blanks. -/
section
namespace Go.Proofs.YtoifnnhbejofjaaDoor
open Go.RowKit Plain

namespace Blank
theorem IndexByte_none (s : ByteArray) (c : UInt8) (w : World) (hs : Lib.indexByte s.data.toList c = -1) :
    Calls Tryd.prog 84 #[.string s, .int .u8 (c.toNat : Int)] w (Ret w (.int .i64 (-1))) :=
  (Tryd.strings_IndexByte s (c.toNat : Int) w).mono fun e w' ⟨he, hw⟩ => ⟨by rw [he]; simp [hs], hw ▸ Below.refl _ _⟩

set_option maxHeartbeats 2000000 in
set_option maxRecDepth 100000 in
theorem IndexRune_hi (r : Int) (w : World) (h0 : 128 ≤ r) (hr : r ≤ 1114111) (hne : r ≠ 65533) (hv : Utf8.valid r = true) :
    Calls Tryd.prog 70 #[.string ⟨#[32, 9, 13]⟩, .int .i32 r] w (Ret w (.int .i64 (-1))) := by
  obtain ⟨hs2, hs4, hlast⟩ := encode_facts r hv h0
  have hvr : Lib.validRune r = true := by
    unfold Utf8.valid at hv
    unfold Lib.validRune
    simp at hv ⊢
    omega
  have HV := Lib.hid (Tryd.utf8_ValidRune r w)
  rw [hvr] at HV
  have hd : ((r : Int) == 65533) = false := by simpa using hne
  have hlast' := hlast (by omega)
  have hd2 : decide (r < 128) = false := by simp; omega
  clear hne hvr
  have g2 : (2 : Int) ≤ (Utf8.encode r).size := by omega
  have g4 : ((Utf8.encode r).size : Int) ≤ 4 := by omega
  by_cases h2 : (Utf8.encode r).size = 2
  · have h1 : 1 < (Utf8.encode r).size := by omega
    obtain ⟨x, hx⟩ : ∃ x, (Utf8.encode r)[1]'h1 = x := ⟨_, rfl⟩
    have hl : 128 ≤ x.toNat := by rw [← hx]; simpa [h2] using hlast'
    have x1 : ((x.toNat : Int) != 9) = true := by simp; omega
    have x2 : ((9 : Int) != x.toNat) = true := by simp; omega
    have hib : Lib.indexByte [13] x = -1 := by
      have : ¬ ((13 : UInt8) = x) := by intro e; rw [← e] at hl; simp at hl
      simp [Lib.indexByte, this]
    clear hlast hlast' hl hs2 hs4
    go_enter Tryd.func70, Tryd.ntmps70
    go_wp2_with (fail)
    refine HV.out.mono ?_
    rintro e w1 ⟨rfl, rfl⟩
    go_wp2_with (fail)
    go_step3
    go_wp2_with (fail)
    go_loopw [9] (fun t9 W => t9 = .int .i64 1 ∧ W = w1) (fun _ _ => 0)
    case atStart => exact ⟨rfl, rfl⟩
    case round =>
      obtain ⟨rfl, rfl⟩ := hrel
      go_wp2_with (fail)
      go_step3
      go_wp2_with (fail)
      refine wp_region_below (by kernel_rfl) (by kernel_rfl) ?_
      repeat (go_big_quiet_step (fail))
      refine wpQuiet_nil ?_
      intro W2 hW2
      go_wp2_with (fail)
      have e2 : IntKind.i64.wrap 2 = 2 := by decide
      refine wp_region_below (by kernel_rfl) (by kernel_rfl) ?_
      repeat (go_big_quiet_step ((intro hW; go_at_call 84; exact Ret.quiet hW (IndexByte_none _ _ _ hib))))
      refine wpQuiet_nil ?_
      intro W3 hW3
      go_wp2_with (fail)
      rw [Exit.noGoto_ret]
      go_wp2_with (fail)
      rw [Exit.noGoto_ret]
      go_ret
      exact ⟨rfl, hW2.trans (hW3.mono hW2.size)⟩
  · by_cases h3 : (Utf8.encode r).size = 3
    · have h1 : 2 < (Utf8.encode r).size := by omega
      obtain ⟨x, hx⟩ : ∃ x, (Utf8.encode r)[2]'h1 = x := ⟨_, rfl⟩
      have hl : 128 ≤ x.toNat := by rw [← hx]; simpa [h3] using hlast'
      have x1 : ((x.toNat : Int) != 13) = true := by simp; omega
      have x2 : ((13 : Int) != x.toNat) = true := by simp; omega
      clear hlast hlast' hl hs2 hs4
      go_enter Tryd.func70, Tryd.ntmps70
      go_wp2_with (fail)
      refine HV.out.mono ?_
      rintro e w1 ⟨rfl, rfl⟩
      go_wp2_with (fail)
      go_step3
      go_wp2_with (fail)
      go_loopw [9] (fun t9 W => t9 = .int .i64 2 ∧ W = w1) (fun _ _ => 0)
      case atStart => exact ⟨rfl, rfl⟩
      case round =>
        obtain ⟨rfl, rfl⟩ := hrel
        go_wp2_with (fail)
        go_step3
        go_wp2_with (fail)
        refine wp_region_below (by kernel_rfl) (by kernel_rfl) ?_
        repeat (go_big_quiet_step (fail))
        refine wpQuiet_nil ?_
        intro W2 hW2
        go_wp2_with (fail)
        have e2 : IntKind.i64.wrap 3 = 3 := by decide
        refine wp_region_below (by kernel_rfl) (by kernel_rfl) ?_
        repeat (go_big_quiet_step ((intro hW; go_at_call 84; exact Ret.quiet hW (IndexByte_none _ _ _ rfl))))
        refine wpQuiet_nil ?_
        intro W3 hW3
        go_wp2_with (fail)
        rw [Exit.noGoto_ret]
        go_wp2_with (fail)
        rw [Exit.noGoto_ret]
        go_ret
        exact ⟨rfl, hW2.trans (hW3.mono hW2.size)⟩
    · have h3 : (3 : Int) ≤ ((Utf8.encode r).size : Int) - 1 := by omega
      clear hlast hlast' h2
      go_enter Tryd.func70, Tryd.ntmps70
      go_wp2_with (fail)
      refine HV.out.mono ?_
      rintro e w1 ⟨rfl, rfl⟩
      go_wp2_with (fail)
      go_step3
      go_wp2_with (fail)
      go_loopw [9] (fun t9 W => t9 = .int .i64 (((Utf8.encode r).size : Int) - 1) ∧ W = w1) (fun _ _ => 0)
      case atStart => exact ⟨rfl, rfl⟩
      case round =>
        obtain ⟨rfl, rfl⟩ := hrel
        go_wp2_with (fail)
        rw [Exit.noGoto_ret]
        go_ret
        exact ⟨rfl, Below.refl _ _⟩

set_option maxHeartbeats 2000000 in
set_option maxRecDepth 100000 in
theorem IndexRune_fffd (w : World) :
    Calls Tryd.prog 70 #[.string ⟨#[32, 9, 13]⟩, .int .i32 65533] w (Ret w (.int .i64 (-1))) := by
  go_enter Tryd.func70, Tryd.ntmps70
  go_wp2_with (fail)
  go_loopw [5, 6] (fun t5 t6 W => ∃ i : Nat, i ≤ 3 ∧ W = w.iter ⟨#[32, 9, 13]⟩ i) (fun _ _ W => 3 - W.iterPos w.heap.size)
  case atStart => exact ⟨0, by omega, rfl⟩
  case round =>
    obtain ⟨i, hi, rfl⟩ := hrel
    have : i = 0 ∨ i = 1 ∨ i = 2 ∨ i = 3 := by omega
    rcases this with rfl | rfl | rfl | rfl
    · have hnx := fun ty => run_next_any (P := Tryd.prog) w ⟨#[32, 9, 13]⟩ 0 ty (by decide)
      rw [show Utf8.decode ⟨#[32, 9, 13]⟩ 0 = (32, 1) by decide +kernel] at hnx
      go_wp2_with (fail)
      go_roundw
      case rel => exact ⟨1, by omega, rfl⟩
      case measure => simp
    · have hnx := fun ty => run_next_any (P := Tryd.prog) w ⟨#[32, 9, 13]⟩ 1 ty (by decide)
      rw [show Utf8.decode ⟨#[32, 9, 13]⟩ 1 = (9, 1) by decide +kernel] at hnx
      go_wp2_with (fail)
      go_roundw
      case rel => exact ⟨2, by omega, rfl⟩
      case measure => simp
    · have hnx := fun ty => run_next_any (P := Tryd.prog) w ⟨#[32, 9, 13]⟩ 2 ty (by decide)
      rw [show Utf8.decode ⟨#[32, 9, 13]⟩ 2 = (13, 1) by decide +kernel] at hnx
      go_wp2_with (fail)
      go_roundw
      case rel => exact ⟨3, by omega, rfl⟩
      case measure => simp
    · have hnx := fun ty => run_next_end (P := Tryd.prog) w ⟨#[32, 9, 13]⟩ 3 ty (by decide)
      go_wp2_with (fail)
      go_ret
      exact ⟨rfl, (Below.refl _ _).alloc (Nat.le_refl _) _⟩

def bl3 : List UInt8 := [32, 9, 13]
theorem IndexRune_lo (x : UInt8) (w : World) (h : x.toNat < 128) :
    Calls Tryd.prog 70 #[.string ⟨#[32, 9, 13]⟩, .int .i32 (x.toNat : Int)] w (Ret w (.int .i64 (Lib.indexByte [32, 9, 13] x))) :=
  (Tryd.strings_IndexRune_ascii ⟨#[32, 9, 13]⟩ (x.toNat : Int) w (by omega) (by omega)).mono fun e w' ⟨he, hw⟩ => ⟨by rw [he]; simp, hw ▸ Below.refl _ _⟩
theorem idx_lo (x : UInt8) : (bl3.contains x = true ∧ ∃ k : Nat, k < 3 ∧ Lib.indexByte [32, 9, 13] x = k) ∨ (bl3.contains x = false ∧ Lib.indexByte [32, 9, 13] x = -1) := by
  by_cases h : x = 32
  · subst h; exact .inl ⟨by decide, 0, by decide, rfl⟩
  · by_cases h2 : x = 9
    · subst h2; exact .inl ⟨by decide, 1, by decide, rfl⟩
    · by_cases h3 : x = 13
      · subst h3; exact .inl ⟨by decide, 2, by decide, rfl⟩
      · right
        constructor
        · simp [bl3, h, h2, h3]
        · simp [Lib.indexByte, Ne.symm h, Ne.symm h2, Ne.symm h3]

set_option maxHeartbeats 1000000 in
set_option maxRecDepth 100000 in
theorem IndexAny_short (l : List UInt8) (w : World) (h8 : l.length ≤ 8) :
    Calls Tryd.prog 47 #[.string ⟨l.toArray⟩, .string ⟨#[32, 9, 13]⟩] w (Ret w (.int .i64 (Lib.indexAny l bl3))) := by
  have hS := fun W => Tryd.strings_shouldUseASCIISet (l.length : Int) W
  rw [decide_eq_false (show ¬ (8 : Int) < l.length by omega)] at hS
  have HS := Lib.hid hS
  clear hS
  have hsz : (ByteArray.mk l.toArray).size = l.length := by simp [ByteArray.size]
  obtain ⟨X, hX⟩ : ∃ X, Lib.indexAny l bl3 = X := ⟨_, rfl⟩
  have HX := Lib.hid hX
  rw [hX]
  clear hX
  go_enter Tryd.func47, Tryd.ntmps47
  go_wp2_with (fail)
  refine (HS.out _).mono ?_
  rintro e w1 ⟨rfl, rfl⟩
  go_wp2_with (fail)
  go_loopw [9, 10] (fun _ _ W => ∃ i : Nat, i ≤ l.length ∧ Hid (Lib.NoAny l bl3 i) ∧ Hid (W.heap[w1.heap.size]? = some (.stringIter ⟨l.toArray⟩ i)) ∧ Hid (Below w1.heap.size w1 W)) (fun _ _ W => l.length - W.iterPos w1.heap.size)
  case atStart => exact ⟨0, by omega, Lib.hid (Lib.NoAny.zero _ _), Lib.hid (World.iter_heap _ _ _), Lib.hid ((Below.refl _ _).alloc (Nat.le_refl _) _)⟩
  case round =>
    obtain ⟨i, hi, HN, HI, HB⟩ := hrel
    have hk := HI.out
    have hpos : wr.iterPos w1.heap.size = i := by unfold World.iterPos; rw [hk]
    have HP := Lib.hid hpos
    clear hpos
    by_cases hlt : i < l.length
    · have hsz' : i < (ByteArray.mk l.toArray).size := by omega
      have hgo : l[i]? = some (l.getD i 0) := by simp [List.getD, hlt]
      by_cases hb : (l.getD i 0).toNat < 128
      · have hnx := fun ty => Lib.run_next_any_at (P := Tryd.prog) wr w1.heap.size ⟨l.toArray⟩ i ty hk hsz'
        rw [dec_lo l i hb] at hnx
        have hik := Lib.iterAt_heap wr w1.heap.size ⟨l.toArray⟩ i (i + 1) hk
        have hib := Lib.below_iterAt HB.out (Nat.le_refl _) ⟨l.toArray⟩ (i + 1)
        have his := Lib.iterAt_size wr w1.heap.size ⟨l.toArray⟩ (i + 1)
        generalize hx : l.getD i 0 = x at *
        have HGO := Lib.hid hgo
        have HIK := Lib.hid hik
        have HIB := Lib.hid hib
        have HC := Lib.hid (IndexRune_lo x (wr.iterAt w1.heap.size ⟨l.toArray⟩ (i + 1)) hb)
        have hcase := idx_lo x
        clear hx hik hib hsz hk hgo
        rcases hcase with ⟨hc, k, hk3, hke⟩ | ⟨hc, hke⟩
        · rw [hke] at HC
          have HE := Lib.hid (Lib.indexAny_hit HN.out HGO.out hc)
          have k0 : (0 : Int) ≤ (k : Int) := by omega
          clear hc hke
          go_wp2_with (fail)
          refine HC.out.mono ?_
          rintro e w2 ⟨rfl, hw2⟩
          go_wp2_with (fail)
          go_ret
          exact ⟨by rw [← HX.out, HE.out]; rfl, HIB.out.trans (hw2.mono HIB.out.size)⟩
        · rw [hke] at HC
          have HN2 := Lib.hid (HN.out.succ HGO.out hc)
          clear hc hke
          go_wp2_with (fail)
          refine HC.out.mono ?_
          rintro e w2 ⟨rfl, hw2⟩
          have hk2 := (hw2.block w1.heap.size (by have := (Array.getElem?_eq_some_iff.1 HI.out).1; rw [his]; exact this)).trans HIK.out
          have HK2 := Lib.hid hk2
          have HB2 := Lib.hid (HIB.out.trans (hw2.mono HIB.out.size))
          clear hk2 hw2
          go_wp2_with (fail)
          go_roundw
          case rel => exact ⟨i + 1, by omega, HN2, HK2, HB2⟩
          case measure =>
            have : w2.iterPos w1.heap.size = i + 1 := by unfold World.iterPos; rw [HK2.out]
            rw [HP.out, this]; omega
      · obtain ⟨q1, q2, q3, q4, q5, q6⟩ := dec_hi l i hlt (by omega)
        have hnx := fun ty => Lib.run_next_any_at (P := Tryd.prog) wr w1.heap.size ⟨l.toArray⟩ i ty hk hsz'
        generalize Utf8.decode ⟨l.toArray⟩ i = d at *
        obtain ⟨r, m⟩ := d
        simp only at q1 q2 q3 q4 q5 q6 hnx
        have HIK := Lib.hid (Lib.iterAt_heap wr w1.heap.size ⟨l.toArray⟩ i (i + m) hk)
        have HIB := Lib.hid (Lib.below_iterAt HB.out (Nat.le_refl _) ⟨l.toArray⟩ (i + m))
        have his := Lib.iterAt_size wr w1.heap.size ⟨l.toArray⟩ (i + m)
        have HC : Hid (Calls Tryd.prog 70 #[.string ⟨#[32, 9, 13]⟩, .int .i32 (r : Int)] (wr.iterAt w1.heap.size ⟨l.toArray⟩ (i + m)) (Ret (wr.iterAt w1.heap.size ⟨l.toArray⟩ (i + m)) (.int .i64 (-1)))) := by
          by_cases e : r = 65533
          · subst e; exact Lib.hid (IndexRune_fffd _)
          · exact Lib.hid (IndexRune_hi r _ (by omega) (by omega) (by omega) q3)
        have Q6 := Lib.hid q6
        clear q6 q3 hsz hk hb hgo
        go_wp2_with (fail)
        refine HC.out.mono ?_
        rintro e w2 ⟨rfl, hw2⟩
        have hk2 := (hw2.block w1.heap.size (by have := (Array.getElem?_eq_some_iff.1 HI.out).1; rw [his]; exact this)).trans HIK.out
        have HK2 := Lib.hid hk2
        have HB2 := Lib.hid (HIB.out.trans (hw2.mono HIB.out.size))
        clear hk2 hw2
        go_wp2_with (fail)
        go_roundw
        case rel => exact ⟨i + m, by omega, Lib.hid (fun j b hj hb => by
          by_cases e : j < i
          · exact HN.out j b e hb
          · have h3 := Q6.out j (by omega) hj
            have h4 : l.getD j 0 = b := by simp [List.getD, hb]
            rw [h4] at h3
            have n1 : b ≠ 32 := by intro e; rw [e] at h3; simp at h3
            have n2 : b ≠ 9 := by intro e; rw [e] at h3; simp at h3
            have n3 : b ≠ 13 := by intro e; rw [e] at h3; simp at h3
            simp [bl3, n1, n2, n3]), HK2, HB2⟩
        case measure =>
          have : w2.iterPos w1.heap.size = i + m := by unfold World.iterPos; rw [HK2.out]
          rw [HP.out, this]; omega
    · have hnx := fun ty => Lib.run_next_end_at (P := Tryd.prog) wr w1.heap.size ⟨l.toArray⟩ i ty hk (by omega)
      have HF := Lib.hid (show Lib.indexAny l bl3 = -1 from Lib.indexAny_none (by rw [show l.length = i by omega]; exact HN.out))
      clear hk hsz
      go_wp2_with (fail)
      go_ret
      exact ⟨by rw [← HX.out, HF.out]; rfl, HB.out⟩
theorem IndexAny_any (l : List UInt8) (w : World) (hl : l.length ≤ 4294967280) :
    Calls Tryd.prog 47 #[.string ⟨l.toArray⟩, .string ⟨#[32, 9, 13]⟩] w (Ret w (.int .i64 (Lib.indexAny l bl3))) := by
  by_cases h8 : l.length ≤ 8
  · exact IndexAny_short l w h8
  · have hsz : (ByteArray.mk l.toArray).size = l.length := by simp [ByteArray.size]
    have h116 : (Tryd.prog.info? 102).map (fun i => (i.zero, i.size)) = some (some (.agg (Array.replicate 256 (.bool false))), 256) := by kernel_rfl
    refine (Tryd.strings_IndexAny_long (zero_of_info h116).1 ⟨l.toArray⟩ ⟨#[32, 9, 13]⟩ w (by decide) (by omega) (by omega) (by decide) (fun j b hb => ?_)).mono ?_
    · match j, hb with
      | 0, hb => simp at hb; subst hb; decide
      | 1, hb => simp at hb; subst hb; decide
      | 2, hb => simp at hb; subst hb; decide
      | j + 3, hb => simp at hb
    · rintro e w' ⟨rfl, rfl⟩
      exact ⟨rfl, ((Below.refl _ _).alloc (Nat.le_refl _) _).alloc (by simp) _⟩
end Blank
end Go.Proofs.YtoifnnhbejofjaaDoor
end

/- The closing of a law's statement: whatever the law's arguments, it answers true and leaves old memory as it was. -/
section
namespace Go.Proofs.YtoifnnhbejofjaaDoor
open Go.ChangeShapes Go.WideShapes Go.ChangeAt Go.RowKit

theorem own : ownKnob Tryd.prog.godebug = none := by kernel_rfl
theorem laidOut : laidOutB Tryd.prog = true := by kernel_rfl

section
variable {H : Type} {enc : TypeId × Value → H} {P : Program}
theorem trodAll_below (hl : laidOutB P = true) {W W' : World} (hb : Below W.heap.size W W') : ∀ {ts : List TypeId} {vs : List Value} {ds : List (DataW H)} {ps : List MemPlace},
    DataW.TrodAll enc P W 0 (fun _ => true) true ts vs ds ps → (ts.all fun t => P.readableRec t && decide (t < P.types.size)) = true → (∀ x ∈ ps, x.block < W.heap.size) →
    DataW.TrodAll enc P W' 0 (fun b => decide (b < W.heap.size)) true ts vs ds ps
  | [], [], [], _, h, _, _ => h
  | t :: ts, v :: vs, d :: ds, ps, h, hr, hlt => by
    obtain ⟨p, q, h1, h2, rfl⟩ := h
    simp only [List.all_cons, Bool.and_eq_true, decide_eq_true_eq] at hr
    exact ⟨p, q, Below.trod hl hr.1.1 hr.1.2 h1 hb (fun x hx => hlt x (List.mem_append_left _ hx)), trodAll_below hl hb h2 (by simpa using hr.2) (fun x hx => hlt x (List.mem_append_right _ hx)), rfl⟩
  | [], [], _ :: _, _, h, _, _ => h.elim
  | [], _ :: _, _, _, h, _, _ => h.elim
  | _ :: _, [], _, _, h, _, _ => h.elim
  | _ :: _, _ :: _, [], _, h, _, _ => h.elim

theorem law_post {f : Func} {s : ChangeSpec} {W W' : World} {args : Array Value} {ds gs : List (DataW H)} {before : List MemPlace} {tb : TypeId}
    (hvars : s.vars = []) (hW : DataW.Whole enc P f.params.toList s.vars false W args.toList ds gs before)
    (hfn : s.fn H (ds ++ gs) = { results := [.lit (.bool true)], args := ds }) (hres : f.resultTypes = #[tb]) (htb : P.underlying tb = some .bool)
    (hread : (f.params.toList.all fun t => P.readableRec t && decide (t < P.types.size)) = true) (hl : laidOutB P = true) (hb : Below W.heap.size W W') :
    s.post enc P f false true false false W args (.bool true) W' := by
  have hW' := hW
  obtain ⟨p, q, hA, hV, hpq, hfz, hnd⟩ := hW
  refine ⟨ds, gs, before, [], p, [], hW', ?_, ?_, ?_, ?_, fun h => by cases h⟩
  · rw [hfn, hres]
    exact trodAll_mk1 (shut_bool htb _)
  · rw [hfn]
    exact trodAll_below hl hb hA hread (fun x hx => hW'.lt x (by rw [hpq]; exact List.mem_append_left _ hx))
  · rw [hfn, hvars]
    exact rfl
  · exact hb.frame _
end

end Go.Proofs.YtoifnnhbejofjaaDoor
end

/- Words for slices that read as lists. -/
section
namespace Go.Proofs.YtoifnnhbejofjaaDoor
open Go.RowKit

/-- The cells xs lie at A: n elements of 'size' cells each. -/
def Reads (w : World) (size : Nat) (A : Option Addr) (n : Nat) (xs : List Value) : Prop :=
  xs.length = n * size ∧ (0 < n → ∃ ad, A = some ad ∧ ∀ j u, xs[j]? = some u → w.cell? (ad.add j) = some u)

theorem block_of_add (a : Addr) (n : Nat) : (a.add n).block = a.block := by unfold Addr.add; split <;> rfl
theorem add_of_add (a : Addr) (i j : Nat) : (a.add i).add j = a.add (i + j) := by
  unfold Addr.add
  by_cases hi : i = 0 <;> by_cases hj : j = 0 <;> simp [hi, hj, Nat.add_assoc]

section
variable {w w' : World} {size n : Nat} {A : Option Addr} {xs : List Value}
theorem Reads.nil (w : World) (size : Nat) (A : Option Addr) : Reads w size A 0 [] := ⟨by simp, fun h => absurd h (by omega)⟩
theorem Reads.at_ {k : Nat} (h : Reads w 1 A n xs) (hk : k < n) : ∃ ad u, A = some ad ∧ xs[k]? = some u ∧ w.cell? (ad.add k) = some u := by
  obtain ⟨ad, e, hc⟩ := h.2 (by omega)
  have hl : k < xs.length := by have := h.1; omega
  exact ⟨ad, xs[k], e, List.getElem?_eq_getElem hl, hc k _ (List.getElem?_eq_getElem hl)⟩
theorem Reads.keep (h : Reads w size A n xs) (hk : ∀ p : Addr, p.block < w.heap.size → w'.cell? p = w.cell? p) : Reads w' size A n xs :=
  ⟨h.1, fun hn => by
    obtain ⟨ad, e, hc⟩ := h.2 hn
    exact ⟨ad, e, fun j u hu => (hk _ (World.block_lt_of_cell? _ _ (hc j u hu))).trans (hc j u hu)⟩⟩
theorem Reads.below (h : Reads w size A n xs) (hb : Below w.heap.size w w') : Reads w' size A n xs := h.keep fun _ hp => hb.cell hp
theorem Reads.cut (h : Reads w size A n xs) {k : Nat} (hk : k ≤ n) (B : Option Addr) (hB : k < n → B = A.map (·.add (k * size))) :
    Reads w size B (n - k) (xs.drop (k * size)) := by
  refine ⟨by rw [List.length_drop, h.1, Nat.sub_mul], fun hn => ?_⟩
  obtain ⟨ad, rfl, hcell⟩ := h.2 (by omega)
  refine ⟨ad.add (k * size), hB (by omega), fun j u hu => ?_⟩
  rw [add_of_add]
  exact hcell _ u (by rw [← hu, List.getElem?_drop])
theorem Reads.take (h : Reads w size A n xs) {k : Nat} (hk : k ≤ n) : Reads w size A k (xs.take (k * size)) := by
  have := Nat.mul_le_mul_right size hk
  refine ⟨by rw [List.length_take, h.1, Nat.min_eq_left this], fun hn => ?_⟩
  obtain ⟨ad, rfl, hcell⟩ := h.2 (by omega)
  refine ⟨ad, rfl, fun j u hu => hcell j u ?_⟩
  rw [List.getElem?_take] at hu
  split at hu
  · exact hu
  · cases hu
theorem Reads.of_own {base : Nat} {e : TypeId} {c : Nat} (h : w.ownsRow base e size (.slice A n c) n xs) : Reads w size A n xs := by
  refine ⟨h.1, fun hn => ?_⟩
  rcases h.2 with ⟨_, h0⟩ | ⟨g, cap, cur, hv, _⟩
  · omega
  · have hA : A = some ⟨g, 0, none⟩ := by injection hv
    subst hA
    exact ⟨_, rfl, h.cells (g := g) rfl⟩
end

/-- The slice value v reads as the cells xs. -/
def IsSlice (w : World) (size : Nat) (v : Value) (n : Nat) (xs : List Value) : Prop := ∃ A c, v = .slice A n c ∧ n ≤ c ∧ c ≤ maxLen ∧ Reads w size A n xs
theorem IsSlice.below {w w' : World} {size n : Nat} {v : Value} {xs : List Value} (h : IsSlice w size v n xs) (hb : Below w.heap.size w w') : IsSlice w' size v n xs := by
  obtain ⟨A, c, rfl, hc, hm, hr⟩ := h
  exact ⟨A, c, rfl, hc, hm, hr.below hb⟩
theorem IsSlice.of_own {w : World} {base : Nat} {e : TypeId} {size n : Nat} {v : Value} {xs : List Value} (h : w.ownsRow base e size v n xs) : IsSlice w size v n xs := by
  have h' := h
  rcases h.2 with ⟨rfl, rfl⟩ | ⟨g, cap, cur, rfl, _, _, hn, hc, _⟩
  · exact ⟨none, 0, rfl, Nat.le_refl _, Nat.zero_le _, Reads.of_own h'⟩
  · exact ⟨_, cap, rfl, hn, hc, Reads.of_own h'⟩

/-- '[]byte(s)': a new row whose first cells are the bytes. -/
theorem conv_bytes {P : Program} (w : World) (src dst e : TypeId) (hs : P.underlying src = some .string) (hd : P.underlying dst = some (.slice e)) (he : P.underlying e = some (.int .u8)) (l : List UInt8) :
    ∃ cap C m, (convert src dst (.string ⟨l.toArray⟩)).run P w = .ok (.slice (some ⟨w.heap.size, 0, none⟩) l.length cap) (w.alloc (.cells C e m)).drew ∧ l.length ≤ cap ∧ C.size = cap ∧ m = (cap, cap + 1) ∧
      ∀ j (h : j < l.length), C[j]? = some (.int .u8 (l[j].toNat : Int)) := by
  have h := run_bytes_of_string (P := P) w src dst e ⟨l.toArray⟩ hs hd he
  have hsz : (ByteArray.mk l.toArray).size = l.length := by simp [ByteArray.size]
  have hge := grownCap_ge w (ByteArray.mk l.toArray).size 0 e
  rw [hsz] at h hge
  have hsize : (bytesRow ⟨l.toArray⟩ (grownCap w l.length 0 e)).size = grownCap w l.length 0 e := by simp [bytesRow, hsz]; omega
  rw [hsize] at h
  refine ⟨grownCap w l.length 0 e, _, _, h, hge, hsize, rfl, fun j hj => ?_⟩
  unfold bytesRow
  rw [Array.getElem?_append_left (by simp; exact hj)]
  simp [hj]
/-- 'string(b)', b the head of a block whose first cells are the bytes. -/
theorem conv_back {P : Program} (w : World) (src dst e : TypeId) (hs : P.underlying src = some (.slice e)) (he : P.underlying e = some (.int .u8)) (hd : P.underlying dst = some .string) (l : List UInt8) (b n cap : Nat) (hn : n = l.length) (C : Array Value) (m : Nat × Nat)
    (hb : w.heap[b]? = some (.cells C e m)) (hC : ∀ j (h : j < l.length), C[j]? = some (.int .u8 (l[j].toNat : Int))) :
    (convert src dst (.slice (some ⟨b, 0, none⟩) n cap)).run P w = .ok (.string ⟨l.toArray⟩) w := by
  subst hn
  exact run_convert_bytes_back w src dst e ⟨b, 0, none⟩ cap l hs he hd (fun j hj => by
    rw [show (⟨b, 0, none⟩ : Addr).add j = ⟨b, j, none⟩ by unfold Addr.add; split <;> simp_all, cell_of_row _ _ _ C e m hb]
    exact hC j hj)
theorem heap_laid_set (w : World) (C : Array Value) (e : TypeId) (m : Nat × Nat) (k : Nat) (v : Value) : ((w.alloc (.cells C e m)).setCell ⟨w.heap.size, k, none⟩ v).heap[w.heap.size]? = some (.cells (C.setIfInBounds k v) e m) := by
  have hb := heap_alloc_new w (.cells C e m)
  simp only [World.setCell, Array.getElem?_modify, if_true, hb]
  rfl
theorem heap_set {W : World} {b : Nat} {C : Array Value} {e : TypeId} {m : Nat × Nat} (h : W.heap[b]? = some (.cells C e m)) (k : Nat) (v : Value) : (W.setCell ⟨b, k, none⟩ v).heap[b]? = some (.cells (C.setIfInBounds k v) e m) := by
  simp only [World.setCell, Array.getElem?_modify, if_true, h]
  rfl
/-- The cells of a row one of which has been written. -/
theorem bytes_set {C : Array Value} {s m : List UInt8} {f x : Nat} (hC : ∀ j (h : j < s.length), C[j]? = some (.int .u8 (s[j].toNat : Int))) (hf : f < s.length) (hx : x < 256) (hm : s.set f (UInt8.ofNat x) = m) :
    ∀ j (h : j < m.length), (C.setIfInBounds f (.int .u8 (x : Int)))[j]? = some (.int .u8 (m[j].toNat : Int)) := by
  subst hm
  intro j hj
  have hfC : f < C.size := (Array.getElem?_eq_some_iff.1 (hC f hf)).1
  by_cases hjk : j = f
  · subst hjk
    rw [Array.getElem?_setIfInBounds_self_of_lt hfC]
    simp [Nat.mod_eq_of_lt hx]
  · rw [Array.getElem?_setIfInBounds_ne (Ne.symm hjk)]
    simp only [List.getElem_set_ne (Ne.symm hjk)]
    exact hC j (by simpa using hj)
/-- The first cells of a row are the first bytes. -/
theorem bytes_take {C : Array Value} {s : List UInt8} (hC : ∀ j (h : j < s.length), C[j]? = some (.int .u8 (s[j].toNat : Int))) (k : Nat) :
    ∀ j (h : j < (s.take k).length), C[j]? = some (.int .u8 ((s.take k)[j].toNat : Int)) := by
  intro j hj
  rw [List.getElem_take]
  exact hC j (by simp at hj; omega)
theorem frozen_laid (w : World) (C : Array Value) (e : TypeId) (cap j : Nat) (h : j < cap) : (w.alloc (.cells C e (cap, cap + 1))).frozen? ⟨w.heap.size, j, none⟩ = false := by
  have hb := heap_alloc_new w (.cells C e (cap, cap + 1))
  unfold World.frozen?
  rw [hb]
  simp; omega

/-- The bytes of a text as cells. -/
def bytesV (l : List UInt8) : List Value := l.map fun b => .int .u8 (b.toNat : Int)
theorem bytesV_length (l : List UInt8) : (bytesV l).length = l.length := by simp [bytesV]
theorem bytesV_append (l m : List UInt8) : bytesV (l ++ m) = bytesV l ++ bytesV m := by simp [bytesV]
theorem bytesV_oneCell (l : List UInt8) : ∀ u ∈ bytesV l, u.oneCell' = true := by
  intro u hu
  simp only [bytesV, List.mem_map] at hu
  obtain ⟨s, _, rfl⟩ := hu
  rfl
/-- 'string(b)', b a row of the call's own (or nil). -/
theorem conv_own {P : Program} {w : World} {base : Nat} (src dst e : TypeId) (hs : P.underlying src = some (.slice e)) (he : P.underlying e = some (.int .u8)) (hd : P.underlying dst = some .string) {v : Value} {n : Nat} {l : List UInt8}
    (h : w.ownsRow base e 1 v n (bytesV l)) : (convert src dst v).run P w = .ok (.string ⟨l.toArray⟩) w := by
  have hn : n = l.length := by have := h.1; rw [bytesV_length] at this; omega
  rcases h.2 with ⟨rfl, h0⟩ | ⟨g, cap, cur, rfl, _, hg, _, _, _, ht⟩
  · rw [run_convert_bytes_nil w src e hs he 0 0 dst hd]
    have : l = [] := List.eq_nil_of_length_eq_zero (by omega)
    subst this
    rfl
  · refine conv_back w src dst e hs he hd l g n cap hn cur (0, 0) hg (fun j hj => ?_)
    have h1 : (bytesV l)[j]? = some (.int .u8 (l[j].toNat : Int)) := by simp [bytesV, hj]
    rw [← ht, List.getElem?_take] at h1
    split at h1
    · simpa using h1
    · cases h1

/-- A text as a value. -/
def strV (s : List UInt8) : Value := .string ⟨s.toArray⟩
def strs (l : List (List UInt8)) : List Value := l.map strV
theorem strs_get {l : List (List UInt8)} {k : Nat} (hk : k < l.length) : (strs l)[k]? = some (.string ⟨(l[k]).toArray⟩) := by
  simp [strs, strV, hk]
theorem strs_length (l : List (List UInt8)) : (strs l).length = l.length := by simp [strs]
theorem strs_take (l : List (List UInt8)) (k : Nat) : (strs l).take k = strs (l.take k) := by simp [strs, List.map_take]
theorem strs_drop (l : List (List UInt8)) (k : Nat) : (strs l).drop k = strs (l.drop k) := by simp [strs, List.map_drop]
theorem strs_append (l m : List (List UInt8)) : strs (l ++ m) = strs l ++ strs m := by simp [strs]
theorem strs_oneCell (l : List (List UInt8)) : ∀ u ∈ strs l, u.oneCell' = true := by
  intro u hu
  simp only [strs, List.mem_map] at hu
  obtain ⟨s, _, rfl⟩ := hu
  rfl

/-- The side goals of an append of one text that has just been laid. -/
theorem laid_one (w : World) (u : Value) (t : TypeId) : ∀ j v, [u][j]? = some v → (w.alloc (.cells #[u] t)).cell? ((⟨w.heap.size, 0, none⟩ : Addr).add j) = some v := by
  intro j v hj
  match j, hj with
  | 0, hj =>
    simp at hj
    subst hj
    rw [show (⟨w.heap.size, 0, none⟩ : Addr).add 0 = ⟨w.heap.size, 0, none⟩ by simp [Addr.add], cell_of_row _ _ _ #[u] t (0, 0) (heap_alloc_new w _)]
    rfl
theorem one_oneCell {u : Value} (h : u.oneCell' = true) : ∀ v ∈ [u], v.oneCell' = true := by
  intro v hv; simp at hv; subst hv; exact h

theorem own_below {w w' : World} {base : Nat} {e : TypeId} {size n : Nat} {v : Value} {xs : List Value} (h : w.ownsRow base e size v n xs) (hb : Below w.heap.size w w') : w'.ownsRow base e size v n xs :=
  h.kept (row := none) ⟨hb.os, hb.tape, hb.output, hb.size, fun k hk _ => hb.block k hk⟩ (by cases v.ownBlock <;> simp)
/-- Behind an append onto a row of the call's own. -/
theorem below_appended {a w w' : World} {B : Nat} {e : TypeId} {size n : Nat} {v : Value} {xs : List Value} (h : Below B a w) (hB : B ≤ w.heap.size) (hown : w.ownsRow B e size v n xs) (o : Obj)
    (hg : (w.alloc o).grownBy w' v.ownBlock) : Below B a w' :=
  (h.alloc hB o).grown hg (by simp; omega) (fun k hk => ((hown.alloc o).lt k hk).1)

/-! ### Only block b, and what is new, has turned -/
theorem gb_refl (w : World) (r : Option Nat) : w.grownBy w r := ⟨rfl, rfl, rfl, Nat.le_refl _, fun _ _ _ => rfl⟩
theorem gb_drewN {a w : World} {r : Option Nat} (h : a.grownBy w r) (n : Nat) : a.grownBy (w.drewN n) r := ⟨h.os, h.tape, h.output, h.size, h.block⟩
theorem gb_drew {a w : World} {r : Option Nat} (h : a.grownBy w r) : a.grownBy w.drew r := ⟨h.os, h.tape, h.output, h.size, h.block⟩
theorem gb_alloc {a w : World} {r : Option Nat} (h : a.grownBy w r) (o : Obj) : a.grownBy (w.alloc o) r :=
  ⟨h.os, h.tape, h.output, Nat.le_trans h.size (by simp), fun i hi hne => (Below.heap_alloc w o i (Nat.lt_of_lt_of_le hi h.size)).trans (h.block i hi hne)⟩
theorem gb_set {a w : World} {g : Nat} (h : a.grownBy w (some g)) {p : Addr} (hp : p.block = g ∨ a.heap.size ≤ p.block) (u : Value) : a.grownBy (w.setCell p u) (some g) :=
  ⟨h.os, h.tape, h.output, by simpa [World.setCell] using h.size, fun i hi hne => (Below.heap_setCell w p u i (by
    rintro rfl
    rcases hp with hp | hp
    · exact hne (by rw [hp])
    · omega)).trans (h.block i hi hne)⟩
theorem gb_below {a w w' : World} {r : Option Nat} (h : a.grownBy w r) (hb : Below w.heap.size w w') : a.grownBy w' r :=
  ⟨hb.os.trans h.os, hb.tape.trans h.tape, hb.output.trans h.output, Nat.le_trans h.size hb.size, fun i hi hne => (hb.block i (Nat.lt_of_lt_of_le hi h.size)).trans (h.block i hi hne)⟩
/-- a block of the call's own that is not below B may have turned -/
theorem below_gb {a w w' : World} {B g : Nat} (h : Below B a w) (hB : B ≤ w.heap.size) (hg : w.grownBy w' (some g)) (hBg : B ≤ g) : Below B a w' :=
  h.grown hg hB (fun k hk => by injection hk with hk; omega)
theorem own_gb {w w' : World} {base : Nat} {e : TypeId} {size n g : Nat} {v : Value} {xs : List Value} (h : w.ownsRow base e size v n xs) (hg : w.grownBy w' (some g)) (hlt : g < base) : w'.ownsRow base e size v n xs :=
  h.kept hg (by
    cases hv : v.ownBlock with
    | none => exact .inl rfl
    | some k => exact .inr (fun e => by injection e with e; have := (h.lt k hv).1; omega))

/-- v is a []string that reads as l. -/
def IsStrs (w : World) (v : Value) (l : List (List UInt8)) : Prop := IsSlice w 1 v l.length (strs l)
theorem IsStrs.below {w w' : World} {v : Value} {l : List (List UInt8)} (h : IsStrs w v l) (hb : Below w.heap.size w w') : IsStrs w' v l := IsSlice.below h hb

/-- What the walk asks of a []string: the address and the cell at an index. -/
theorem Reads.str_at {w : World} {A : Option Addr} {l : List (List UInt8)} {k : Nat} (h : Reads w 1 A l.length (strs l)) (hk : k < l.length) :
    ∃ ad, A = some ad ∧ w.cell? (ad.add k) = some (.string ⟨(l[k]).toArray⟩) := by
  obtain ⟨ad, u, hA, hu, hc⟩ := h.at_ hk
  rw [strs_get hk] at hu
  injection hu with hu
  exact ⟨ad, hA, by rw [hc, hu]⟩

theorem take_next {α : Type} {l m : List α} {k : Nat} (hl : k < l.length) (hm : k < m.length) (h : l.take k = m.take k) (he : l[k] = m[k]) : l.take (k + 1) = m.take (k + 1) := by
  rw [List.take_succ_eq_append_getElem hl, List.take_succ_eq_append_getElem hm, h, he]

end Go.Proofs.YtoifnnhbejofjaaDoor
end

/- Opening of arguments: lists of texts; what the bound of the second form gives. -/
section
namespace Go.Proofs.YtoifnnhbejofjaaDoor
open Go.ChangeShapes Go.WideShapes Go.ChangeAt Go.RowKit

section
variable {H : Type} {enc : TypeId × Value → H} {P : Program} {w : World} {base : Nat} {held : Bool}

theorem toList_mk (s : ByteArray) : (⟨s.data.toList.toArray⟩ : ByteArray) = s := by cases s; simp

/-- A []string among the arguments: the texts that it reads as. -/
theorem open_texts {r : Reach} {b0 : Nat} {t e : TypeId} {v : Value} {d : DataW H} {ps : List MemPlace} (ht : P.underlying t = some (.slice e)) (he : P.underlying e = some .string) (hc : P.cellsOf e = 1)
    (hval : Value.okWide P w r b0 t v) (hd : DataW.Trod enc P w base (fun _ => true) held t v d ps) :
    ∃ A c, ∃ l : List (List UInt8), v = .slice A l.length c ∧ l.length ≤ c ∧ c ≤ maxLen ∧ Reads w 1 A l.length (strs l) ∧ (∀ s ∈ l, s.length ≤ maxLen) ∧
      ((d = .nil ∧ l = []) ∨ ∃ sp, d = .slice (l.map fun s => .lit (.string s)) sp) := by
  obtain ⟨a0, len, cap, rfl⟩ := okWide_slice ht hval
  obtain ⟨fuel, hf⟩ := hd
  rcases open_strings ht he hc hf with ⟨hcs, hx⟩ | ⟨a, len', cap', ss, hcs, _, hl, hm, hz, hx, hcell, hws⟩
  · simp [Value.cells] at hcs
    obtain ⟨rfl, rfl, rfl⟩ := hcs
    simp only [Prod.mk.injEq] at hx
    exact ⟨none, 0, [], rfl, Nat.le_refl _, Nat.zero_le _, Reads.nil _ _ _, by simp, .inl ⟨hx.1, rfl⟩⟩
  · simp [Value.cells] at hcs
    obtain ⟨rfl, rfl, rfl⟩ := hcs
    simp only [if_true] at hz
    simp only [Prod.mk.injEq] at hx
    have hlen : ((ss.take len).map fun s => s.data.toList).length = len := by simp; omega
    refine ⟨some a, cap, (ss.take len).map fun s => s.data.toList, by rw [hlen], by omega, hm, ⟨by rw [strs_length, Nat.mul_one], fun _ => ⟨a, rfl, fun j u hu => ?_⟩⟩, ?_, .inr ⟨_, by rw [hx.1, List.map_map]; rfl⟩⟩
    · have hj : j < len := by
        have := (List.getElem?_eq_some_iff.1 hu).1
        rw [strs_length, hlen] at this
        exact this
      rw [hcell j (by omega)]
      have hjs : j < ss.length := by omega
      rw [strs, List.map_map, List.getElem?_map, List.getElem?_take_of_lt hj, List.getElem?_eq_getElem hjs] at hu
      simp only [Option.map_some, Option.some.injEq] at hu
      rw [← hu]
      simp [strV, List.getD, hjs]
    · intro s hs
      simp only [List.mem_map] at hs
      obtain ⟨b, hb, rfl⟩ := hs
      have := hws b (List.mem_of_mem_take hb)
      simpa using this

/-! ### The bound of the second form -/
theorem bulk_one (d : DataW H) : 1 ≤ Rows.uptoBulk d := by
  cases d with
  | lit l => cases l <;> simp [Rows.uptoBulk]
  | nil => simp [Rows.uptoBulk]
  | ptr d => simp [Rows.uptoBulk]
  | slice elems spare => simp [Rows.uptoBulk]
  | agg parts => simp [Rows.uptoBulk]
  | iface t d => simp [Rows.uptoBulk]
  | map entries => simp [Rows.uptoBulk]
  | held h => simp [Rows.uptoBulk]

theorem bulk_bound {l : List (DataW H)} (hk : Rows.uptoSmall H l = true) : Rows.uptoBulkAll l ≤ 1048576 := of_decide_eq_true hk

/-- the letters and places of a list of texts -/
def weight (l : List (List UInt8)) : Nat := (l.map fun s => s.length + 1).sum
theorem bulk_texts (l : List (List UInt8)) : Rows.uptoBulkAll (l.map fun s => (DataW.lit (.string s) : DataW H)) = weight l := by
  unfold weight
  induction l with
  | nil => simp [Rows.uptoBulkAll]
  | cons s l ih => simp only [List.map_cons, Rows.uptoBulkAll, ih, Rows.uptoBulk, List.sum_cons]
theorem weight_le_bulk {l : List (List UInt8)} {d : DataW H} (h : (d = .nil ∧ l = []) ∨ ∃ sp, d = .slice (l.map fun s => .lit (.string s)) sp) : weight l ≤ Rows.uptoBulk d := by
  rcases h with ⟨rfl, rfl⟩ | ⟨sp, rfl⟩
  · simp [weight]
  · simp only [Rows.uptoBulk, bulk_texts]; omega
theorem weight_length (l : List (List UInt8)) : l.length ≤ weight l := by
  unfold weight
  induction l with
  | nil => simp
  | cons s l ih => simp only [List.length_cons, List.map_cons, List.sum_cons]; omega
theorem weight_mem {l : List (List UInt8)} {s : List UInt8} (h : s ∈ l) : s.length + 1 ≤ weight l := by
  unfold weight
  induction l with
  | nil => cases h
  | cons t l ih =>
    simp only [List.map_cons, List.sum_cons]
    rcases List.mem_cons.1 h with rfl | h
    · omega
    · have := ih h; omega
end

end Go.Proofs.YtoifnnhbejofjaaDoor
end
