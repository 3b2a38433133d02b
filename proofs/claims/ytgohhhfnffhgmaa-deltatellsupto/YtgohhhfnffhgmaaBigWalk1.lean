/- hawserref04.times, greater: numbers in words of 32 bits. -/
import Derived.Test.YtgohhhfnffhgmaaWords
import Derived.Test.YtgohhhfnffhgmaaPlainBig
import Derived.OwnWalk
import Derived.Deep.QuietTactic
import Derived.BigQuiet
namespace Go.Proofs.Ytgohhhfnffhgmaa
open Go.RowKit Plain

def u64s (l : List Nat) : List Value := l.map fun (x : Nat) => .int .u64 (x : Int)
theorem u64s_length (l : List Nat) : (u64s l).length = l.length := by simp [u64s]
theorem u64s_get {l : List Nat} {k : Nat} (h : k < l.length) : (u64s l)[k]? = some (.int .u64 (l.getD k 0 : Nat)) := by
  simp [u64s, h, List.getD_eq_getElem?_getD]
theorem u64s_set (l : List Nat) (k x : Nat) : (u64s l).set k (.int .u64 (x : Int)) = u64s (l.set k x) := by simp [u64s, List.map_set]
theorem Reads.u64_at {w : World} {A : Option Addr} {l : List Nat} {k : Nat} (h : Reads w 1 A l.length (u64s l)) (hk : k < l.length) : ∃ ad, A = some ad ∧ w.cell? (ad.add k) = some (.int .u64 (l.getD k 0 : Nat)) := by
  obtain ⟨ad, u, hA, hu, hc⟩ := h.at_ hk
  rw [u64s_get hk] at hu
  injection hu with hu
  exact ⟨ad, hA, by rw [hc, hu]⟩
theorem madeU64 (n : Nat) : (madeCells #[Value.int .u64 0] n).toList = u64s (List.replicate n 0) := by
  apply List.ext_getElem?
  intro k
  simp only [madeCells, u64s, List.getElem?_map, List.getElem?_replicate]
  by_cases h : k < n
  · simp [h, Nat.mod_one]
  · simp [h]

theorem own_set {w wr : World} {g n cap : Nat} {e : TypeId} {l : List Nat} (h : wr.ownsRow w.heap.size e 1 (.slice (some ⟨g, 0, none⟩) n cap) n (u64s l)) (hb : Below w.heap.size w wr) (j x : Nat) :
    ∀ d, ((wr.drewN d).setCell ⟨g, j, none⟩ (.int .u64 (x : Int))).ownsRow w.heap.size e 1 (.slice (some ⟨g, 0, none⟩) n cap) n (u64s (l.set j x)) ∧ Below w.heap.size w ((wr.drewN d).setCell ⟨g, j, none⟩ (.int .u64 (x : Int))) := by
  intro d
  have h' : (wr.drewN d).ownsRow w.heap.size e 1 (.slice (some ⟨g, 0, none⟩) n cap) n (u64s l) := h
  have h2 := h'.stored j (.int .u64 (x : Int))
  rw [u64s_set] at h2
  exact ⟨h2.1, (below_drewN hb d).setCell (h.lt g rfl).1 _⟩

theorem info_u64 : (Try.prog.info? 79).map (fun i => (i.zero, i.size, i.bytes)) = some (some (.int .u64 0), 1, 8) := by kernel_rfl

/-- a new slice that says x, of n words -/
def BigOut (w : World) (x n : Nat) (e : Ending) (w' : World) : Prop := ∃ (g : Nat) (v : List Nat), e = .returned (.slice (some ⟨g, 0, none⟩) v.length v.length) ∧ Below w.heap.size w w' ∧ Reads w' 1 (some ⟨g, 0, none⟩) v.length (u64s v) ∧ Words v ∧ val v = x ∧ v.length = n

set_option maxHeartbeats 1000000 in
theorem times_any (A B : Option Addr) (ca cb : Nat) (a b : List Nat) (w : World) (ha : Reads w 1 A a.length (u64s a)) (hb : Reads w 1 B b.length (u64s b)) (wa : Words a) (wb : Words b) (hla : a.length ≤ 1000) (hlb : b.length ≤ 1000) :
    Calls Try.prog 54 #[.slice A a.length ca, .slice B b.length cb] w (BigOut w (val a * val b) (a.length + b.length + 1)) := by
  obtain ⟨i0, hi, hz0, hz1, hz2⟩ := info_parts info_u64
  go_enter Try.func54, Try.ntmps54
  go_wp2_with (at_make; refine wpList_make_full _ rfl _ _ 98 rfl w.heap.size 79 i0 (.int .u64 0) 1 Try.underlying98 hi hz0 hz1 .i64 .i64 _ _ (a.length + b.length + 1) rfl rfl ?c1 ?c2 ?c3 ?c4 ?c5 ?_)
  case c1 => push_cast; rfl
  case c2 => push_cast; rfl
  case c3 => rw [hz2]; omega
  case c4 => unfold maxLen; omega
  case c5 => exact Nat.le_refl _
  intro w1 hown hgrow
  rw [madeU64] at hown
  have hb1 : Below w.heap.size w w1 := (Below.refl _ _).grown hgrow (Nat.le_refl _) (fun k hk => by cases hk)
  have ST := Lib.hid (TimesIn.start a b)
  have HO := Lib.hid hown
  have HB := Lib.hid hb1
  clear hown hgrow hb1
  go_wp2_with (fail)
  go_loopw [6] (fun t6 W => ∃ (i : Nat) (v : List Nat), i ≤ a.length ∧ t6 = .int .i64 i ∧ Hid (TimesIn a b v i 0 0) ∧ Hid (W.ownsRow w.heap.size 79 1 (.slice (some ⟨w.heap.size, 0, none⟩) (a.length + b.length + 1) (a.length + b.length + 1)) (a.length + b.length + 1) (u64s v)) ∧ Hid (Below w.heap.size w W)) (fun t6 _ => a.length - (intOf t6).toNat)
  case atStart => exact ⟨0, _, by omega, rfl, ST, HO, HB⟩
  case round =>
    clear ST HO HB
    obtain ⟨i, v, hi, rfl, HT, HO, HB⟩ := hrel
    by_cases hlt : i < a.length
    · obtain ⟨ad, rfl, ca0⟩ := ha.u64_at hlt
      have hx := wa i
      have HA := Lib.hid ca0
      clear ca0
      obtain ⟨wo, rfl⟩ : ∃ wo : World, wo = wr := ⟨_, rfl⟩
      generalize hxx : a.getD i 0 = x at *
      have HX := Lib.hid hxx
      clear hxx
      go_wp2_with (fail)
      go_loopw [7, 8, 9] (fun t7 t8 _ W => ∃ (j c : Nat) (v : List Nat), t8 = .int .i64 j ∧ t7 = .int .u64 c ∧ Hid (TimesIn a b v i j c) ∧ Hid (W.ownsRow w.heap.size 79 1 (.slice (some ⟨w.heap.size, 0, none⟩) (a.length + b.length + 1) (a.length + b.length + 1)) (a.length + b.length + 1) (u64s v)) ∧ Hid (Below w.heap.size w W)) (fun _ t8 _ _ => b.length + 2 - (intOf t8).toNat)
      case atStart => exact ⟨0, 0, v, rfl, rfl, HT, HO, HB⟩
      case round =>
        clear HT HO HB
        clear v
        obtain ⟨j, c, v, rfl, rfl, HT, HO, HB⟩ := hrel
        have hjl := HT.out.j_le
        have hcl := HT.out.c_lt
        have hvl := HT.out.words (i + j)
        have hlen := HT.out.len
        by_cases hin : j < b.length
        · obtain ⟨bd, rfl, cb0⟩ := (hb.below HB.out).u64_at hin
          have cA : wr.cell? (ad.add i) = some (.int .u64 (x : Nat)) := by rw [HB.out.cell (World.block_lt_of_cell? _ _ HA.out)]; exact HA.out
          have hy := wb j
          obtain ⟨hst, hfit, hlt2⟩ := HT.out.step wa hlt (.inl ⟨hin, rfl⟩) (mul_bound (wa i) (wb j))
          rw [HX.out] at hst hfit
          have cV : wr.cell? ⟨w.heap.size, i + j, none⟩ = some (.int .u64 (v.getD (i + j) 0 : Nat)) := by
            rw [HO.out.cellAt (i + j) (by omega)]; exact u64s_get hlt2
          have fV : wr.frozen? ⟨w.heap.size, i + j, none⟩ = false := HO.out.frozenAt _
          have hset := own_set HO.out HB.out (i + j) ((v.getD (i + j) 0 + c + x * b.getD j 0) % 4294967296)
          have hp2 : (x : Int) * (b.getD j 0 : Nat) = ((x * b.getD j 0 : Nat) : Int) := by push_cast; rfl
          have hpb := mul_bound hx (wb j)
          generalize hy2 : b.getD j 0 = y at *
          generalize hv2 : v.getD (i + j) 0 = z at *
          generalize x * y = m at *
          have HST := Lib.hid hst
          have HSET := Lib.hid hset
          have hB1 : decide ((j : Int) < b.length) = true := by simp; omega
          have p1 : (0 : Int) ≤ i := by omega
          have q1 : (i : Int) < a.length := by omega
          have p2 : (0 : Int) ≤ j := by omega
          have q2 : (j : Int) < b.length := by omega
          have wm : IntKind.u64.wrap (m : Int) = m := IntWalk.u64_in _ (by omega)
          have ws : IntKind.u64.wrap ((z : Int) + c + m) = (z : Int) + c + m := IntWalk.u64_in _ (by omega)
          have cA' := cA
          clear hst hset hy2 hv2
          go_wp2_with (fail)
          go_quiet (fail)
          clear wm ws
          go_wp2_with (fail)
          go_roundw
          case rel => exact ⟨j + 1, (z + c + m) / 4294967296, _, by go_num, by go_num, HST, Lib.hid (by simpa using (HSET.out _).1), Lib.hid (by simpa using (HSET.out _).2)⟩
          case measure => simp [intOf]; omega
        · have hB1 : decide ((j : Int) < b.length) = false := by simp; omega
          by_cases hc0 : 0 < c
          · obtain ⟨hst, hfit, hlt2⟩ := HT.out.step (m := 0) wa hlt (.inr ⟨by omega, hc0, rfl⟩) (by omega)
            have cV : wr.cell? ⟨w.heap.size, i + j, none⟩ = some (.int .u64 (v.getD (i + j) 0 : Nat)) := by
              rw [HO.out.cellAt (i + j) (by omega)]; exact u64s_get hlt2
            have fV : wr.frozen? ⟨w.heap.size, i + j, none⟩ = false := HO.out.frozenAt _
            have hset := own_set HO.out HB.out (i + j) ((v.getD (i + j) 0 + c + 0) % 4294967296)
            rw [Nat.add_zero] at hst hset hfit
            generalize hv2 : v.getD (i + j) 0 = z at *
            have HST := Lib.hid hst
            have HSET := Lib.hid hset
            have hB2 : decide ((0 : Int) < c) = true := by simp; omega
            clear hst hset hv2
            go_wp2_with (fail)
            go_roundw
            case rel =>
              have hs0 := HSET.out 0
              rw [show wr.drewN 0 = wr from rfl] at hs0
              exact ⟨j + 1, (z + c) / 4294967296, _, by go_num, by go_num, HST, Lib.hid (by simpa using hs0.1), Lib.hid (by simpa using hs0.2)⟩
            case measure => simp [intOf]; omega
          · obtain rfl : c = 0 := by omega
            have hrow := HT.out.row (by omega)
            have HR := Lib.hid hrow
            clear hrow
            go_wp2_with (fail)
            go_roundw
            case rel => exact ⟨i + 1, v, by omega, by go_num, HR, HO, HB⟩
            case measure => simp [intOf]; omega
    · obtain rfl : i = a.length := by omega
      have hd := HT.out.done
      have hlen := HT.out.len
      go_wp2_with (fail)
      go_ret
      exact ⟨w.heap.size, v, by rw [hlen]; rfl, HB.out, by rw [hlen]; exact Reads.of_own HO.out, hd.2, hd.1, hlen⟩

/-- is a above b? -/
def gtB (x y : Nat) : Bool := decide (y < x)

set_option maxHeartbeats 1000000 in
theorem greater_any (A B : Option Addr) (ca cb : Nat) (a b : List Nat) (w : World) (ha : Reads w 1 A a.length (u64s a)) (hb : Reads w 1 B b.length (u64s b)) (wa : Words a) (wb : Words b) (hla : a.length ≤ 1000) (hlb : b.length ≤ 1000) :
    Calls Try.prog 55 #[.slice A a.length ca, .slice B b.length cb] w (Ret w (.bool (gtB (val a) (val b)))) := by
  go_enter Try.func55, Try.ntmps55
  go_wp2_with (fail)
  all_goals
    go_loop [5, 6, 7] (fun t5 _ _ => ∃ i : Nat, i ≤ a.length + b.length ∧ t5 = .int .i64 ((i : Int) - 1) ∧ Hid (val (a.drop i) = val (b.drop i))) (fun t5 _ _ => (intOf t5 + 1).toNat)
    case atStart =>
      first
        | exact ⟨b.length, by omega, rfl, Lib.hid (by rw [List.drop_eq_nil_of_le (by omega), List.drop_eq_nil_of_le (by omega)])⟩
        | exact ⟨a.length, by omega, rfl, Lib.hid (by rw [List.drop_eq_nil_of_le (by omega), List.drop_eq_nil_of_le (by omega)])⟩
    case round =>
      obtain ⟨i, hi, rfl, HD⟩ := hrel
      by_cases h0 : i = 0
      · subst h0
        have hg : gtB (val a) (val b) = false := by
          have := HD.out
          rw [List.drop_zero, List.drop_zero] at this
          unfold gtB; rw [this]; simp
        have HGG := Lib.hid hg
        clear hg HD
        go_wp2_with (fail)
        go_ret
        exact ⟨by rw [HGG.out]; rfl, Below.refl _ _⟩
      · obtain ⟨k, rfl⟩ : ∃ k, i = k + 1 := ⟨i - 1, by omega⟩
        have hxw := wa k
        have hyw := wb k
        have hx0 : a.length ≤ k → a.getD k 0 = 0 := fun h => by rw [List.getD_eq_getElem?_getD, List.getElem?_eq_none h]; rfl
        have hy0 : b.length ≤ k → b.getD k 0 = 0 := fun h => by rw [List.getD_eq_getElem?_getD, List.getElem?_eq_none h]; rfl
        have hcmp := val_cmp a b k wa wb HD.out
        have h1 := drop_one a k
        have h2 := drop_one b k
        have hca : k < a.length → ∃ ad, A = some ad ∧ w.cell? (ad.add k) = some (.int .u64 (a.getD k 0 : Nat)) := fun h => ha.u64_at h
        have hcb : k < b.length → ∃ ad, B = some ad ∧ w.cell? (ad.add k) = some (.int .u64 (b.getD k 0 : Nat)) := fun h => hb.u64_at h
        generalize a.getD k 0 = x at *
        generalize b.getD k 0 = y at *
        have e1 : ((k + 1 : Nat) : Int) - 1 = k := by omega
        have HE : x = y → val (a.drop k) = val (b.drop k) := fun e => by rw [h1, h2, e, HD.out]
        have HG : x ≠ y → gtB (val a) (val b) = decide ((y : Int) < x) := fun e => by
          unfold gtB
          by_cases hl : y < x
          · rw [decide_eq_true ((hcmp e).2 hl), decide_eq_true (by omega)]
          · rw [decide_eq_false (fun h => hl ((hcmp e).1 h)), decide_eq_false (by omega)]
        have GN := Lib.hid HG
        have EN := Lib.hid HE
        clear h1 h2 hcmp HG HE
        by_cases pa : k < a.length
        · by_cases pb : k < b.length
          · obtain ⟨ad, rfl, ca0⟩ := hca pa
            obtain ⟨bd, rfl, cb0⟩ := hcb pb
            clear hca hcb hx0 hy0
            by_cases hxy : x = y
            · subst hxy
              clear GN
              go_wp2_with (fail)
              go_round
              case rel => exact ⟨k, by omega, by go_num, Lib.hid (EN.out rfl)⟩
              case measure => simp [intOf]
            · have hb1 : ((x : Int) != y) = true := by simp; omega
              have HGG := Lib.hid (GN.out hxy)
              clear EN GN
              go_wp2_with (fail)
              go_ret
              exact ⟨by rw [HGG.out]; simp, Below.refl _ _⟩
          · obtain ⟨ad, rfl, ca0⟩ := hca pa
            obtain rfl := hy0 (by omega)
            clear hca hcb hx0 hy0
            by_cases hxy : x = 0
            · subst hxy
              clear GN
              go_wp2_with (fail)
              go_round
              case rel => exact ⟨k, by omega, by go_num, Lib.hid (EN.out rfl)⟩
              case measure => simp [intOf]
            · have hb1 : ((x : Int) != 0) = true := by simp; omega
              have HGG := Lib.hid (GN.out hxy)
              clear EN GN
              go_wp2_with (fail)
              go_ret
              exact ⟨by rw [HGG.out]; simp, Below.refl _ _⟩
        · by_cases pb : k < b.length
          · obtain rfl := hx0 (by omega)
            obtain ⟨bd, rfl, cb0⟩ := hcb pb
            clear hca hcb hx0 hy0
            by_cases hxy : 0 = y
            · subst hxy
              clear GN
              go_wp2_with (fail)
              go_round
              case rel => exact ⟨k, by omega, by go_num, Lib.hid (EN.out rfl)⟩
              case measure => simp [intOf]
            · have hb1 : ((0 : Int) != y) = true := by simp; omega
              have HGG := Lib.hid (GN.out hxy)
              clear EN GN
              go_wp2_with (fail)
              go_ret
              exact ⟨by rw [HGG.out]; simp, Below.refl _ _⟩
          · obtain rfl := hx0 (by omega)
            obtain rfl := hy0 (by omega)
            clear hca hcb hx0 hy0
            clear GN
            go_wp2_with (fail)
            go_round
            case rel => exact ⟨k, by omega, by go_num, Lib.hid (EN.out rfl)⟩
            case measure => simp [intOf]
end Go.Proofs.Ytgohhhfnffhgmaa
