/- Four structures in memory that stay apart, and a block beside them. -/
import Derived.Test.YtknoedlelmflhaaRMux5
import Derived.Test.YtknoedlelmflhaaMuxAwake
namespace Go.Proofs.Ytknoedlelmflhaa
open Go.RowKit Plain

/-- four footprints, pairwise apart, and a block q that lies in none of them -/
structure Fam4 (base q : Nat) (A B C D : Nat → Prop) (w : World) : Prop where
  ab : Dis A B
  ac : Dis A C
  ad : Dis A D
  bc : Dis B C
  bd : Dis B D
  cd : Dis C D
  la : Lain base A w
  lb : Lain base B w
  lc : Lain base C w
  ld : Lain base D w
  na : ¬ A q
  nb : ¬ B q
  nc : ¬ C q
  nd : ¬ D q
  lt : q < w.heap.size
  hb : base ≤ w.heap.size
section
variable {base q : Nat} {A B C D : Nat → Prop} {w w' : World}
theorem Fam4.rot (h : Fam4 base q A B C D w) : Fam4 base q B C D A w := ⟨h.bc, h.bd, h.ab.symm, h.cd, h.ac.symm, h.ad.symm, h.lb, h.lc, h.ld, h.la, h.nb, h.nc, h.nd, h.na, h.lt, h.hb⟩
theorem Fam4.mono (h : Fam4 base q A B C D w) (hs : w.heap.size ≤ w'.heap.size) : Fam4 base q A B C D w' := ⟨h.ab, h.ac, h.ad, h.bc, h.bd, h.cd, h.la.mono hs, h.lb.mono hs, h.lc.mono hs, h.ld.mono hs, h.na, h.nb, h.nc, h.nd, Nat.lt_of_lt_of_le h.lt hs, Nat.le_trans h.hb hs⟩
theorem Fam4.grow (h : Fam4 base q A B C D w) (hs : w.heap.size ≤ w'.heap.size) : Fam4 base q (Grow A w w') B C D w' :=
  ⟨h.ab.grow h.lb, h.ac.grow h.lc, h.ad.grow h.ld, h.bc, h.bd, h.cd, h.la.grow h.hb hs, h.lb.mono hs, h.lc.mono hs, h.ld.mono hs, fun e => by
    rcases e with e | e
    · exact h.na e
    · have := h.lt; omega, h.nb, h.nc, h.nd, Nat.lt_of_lt_of_le h.lt hs, Nat.le_trans h.hb hs⟩
end

/-- a sender and a receiver, and the document's, in one state; the frame that was sent last -/
structure Runs (base bo bi bx by' q win size : Nat) (cs : List Snd) (r : Rcv) (n : Nat) (fc fa : Int) (ft : List UInt8) (fl : Bool) (A B C D : Nat → Prop) (w : World) : Prop where
  fam : Fam4 base q A B C D w
  out : OutAt A base bo win size cs w
  inn : InAt B base bi r n w
  rout : ROutAt C base bx win size cs w
  rinn : RInAt D base by' r n w
  last : w.heap[q]? = some (.cells #[.int .i64 fc, .int .i64 fa, .string ⟨ft.toArray⟩, .bool fl] 37 (0, 0))
def RunsAt (base bo bi bx by' q win size : Nat) (cs : List Snd) (r : Rcv) (n : Nat) (fc fa : Int) (ft : List UInt8) (fl : Bool) (w : World) : Prop := ∃ A B C D, Runs base bo bi bx by' q win size cs r n fc fa ft fl A B C D w

section
variable {base bo bi bx by' q win size n : Nat} {cs cs' : List Snd} {r r' : Rcv} {fc fa : Int} {ft : List UInt8} {fl : Bool} {A B C D : Nat → Prop} {w w1 w2 : World}
theorem Runs.below (h : Runs base bo bi bx by' q win size cs r n fc fa ft fl A B C D w) (hb : Below w.heap.size w w1) : Runs base bo bi bx by' q win size cs r n fc fa ft fl A B C D w1 :=
  ⟨h.fam.mono hb.size, h.out.below hb, h.inn.below hb, h.rout.below hb, h.rinn.below hb, (hb.block q h.fam.lt).trans h.last⟩
theorem RunsAt.below (h : RunsAt base bo bi bx by' q win size cs r n fc fa ft fl w) (hb : Below w.heap.size w w1) : RunsAt base bo bi bx by' q win size cs r n fc fa ft fl w1 := by
  obtain ⟨A, B, C, D, h⟩ := h
  exact ⟨A, B, C, D, h.below hb⟩
/-- the sender and the document's sender turned -/
theorem Runs.outs (h : Runs base bo bi bx by' q win size cs r n fc fa ft fl A B C D w) (h1 : Only A w w1) (k1 : OutAt (Grow A w w1) base bo win size cs' w1)
    (h2 : Only C w1 w2) (k2 : ROutAt (Grow C w1 w2) base bx win size cs' w2) : Runs base bo bi bx by' q win size cs' r n fc fa ft fl (Grow A w w1) B (Grow C w1 w2) D w2 := by
  have f1 := h.fam.grow (w' := w1) h1.size
  have f2 := ((f1.rot.rot).grow (w' := w2) h2.size).rot.rot
  exact ⟨f2, k1.only h2 f1.ac, (h.inn.only h1 h.fam.ab.symm).only h2 f1.bc, k2, (h.rinn.only h1 h.fam.ad.symm).only h2 f1.cd.symm,
    ((h2.block q f1.lt f1.nc).trans ((h1.block q h.fam.lt h.fam.na).trans h.last))⟩
theorem Runs.outs0 (h : Runs base bo bi bx by' q win size cs r n fc fa ft fl A B C D w) (h1 : Only A w w1) (k1 : OutAt A base bo win size cs' w1)
    (h2 : Only C w1 w2) (k2 : ROutAt C base bx win size cs' w2) : Runs base bo bi bx by' q win size cs' r n fc fa ft fl A B C D w2 := by
  have f1 := h.fam.mono (w' := w1) h1.size
  have f2 := f1.mono (w' := w2) h2.size
  exact ⟨f2, k1.only h2 f1.ac, (h.inn.only h1 h.fam.ab.symm).only h2 f1.bc, k2, (h.rinn.only h1 h.fam.ad.symm).only h2 f1.cd.symm,
    ((h2.block q f1.lt f1.nc).trans ((h1.block q h.fam.lt h.fam.na).trans h.last))⟩
/-- the receiver and the document's receiver turned -/
theorem Runs.inns (h : Runs base bo bi bx by' q win size cs r n fc fa ft fl A B C D w) (h1 : Only B w w1) (k1 : InAt (Grow B w w1) base bi r' (n + 1) w1)
    (h2 : Only D w1 w2) (k2 : RInAt (Grow D w1 w2) base by' r' (n + 1) w2) : Runs base bo bi bx by' q win size cs r' (n + 1) fc fa ft fl A (Grow B w w1) C (Grow D w1 w2) w2 := by
  have f1 := ((h.fam.rot).grow (w' := w1) h1.size).rot.rot.rot
  have f2 := ((f1.rot.rot.rot).grow (w' := w2) h2.size).rot
  exact ⟨f2, (h.out.only h1 h.fam.ab).only h2 f1.ad, k1.only h2 f1.bd, (h.rout.only h1 h.fam.bc.symm).only h2 f1.cd, k2,
    ((h2.block q f1.lt f1.nd).trans ((h1.block q h.fam.lt h.fam.nb).trans h.last))⟩
theorem Runs.more (h : Runs base bo bi bx by' q win size cs r n fc fa ft fl A B C D w) : Runs base bo bi bx by' q win size cs r (n + 1) fc fa ft fl A B C D w := by
  obtain ⟨m, Pb, v, hi⟩ := h.inn
  obtain ⟨L, v2, u2, hr⟩ := h.rinn
  exact ⟨h.fam, h.out, ⟨m, Pb, v, hi.wider (fun _ h => h) hi.lain (by omega)⟩, h.rout, ⟨L, v2, u2, hr.wider (fun _ h => h) hr.lain (by omega)⟩, h.last⟩
/-- the last frame is another one -/
theorem Runs.setLast (h : Runs base bo bi bx by' q win size cs r n fc fa ft fl A B C D w) {gc ga : Int} {gt : List UInt8} {gl : Bool} (h1 : Only (fun b => b = q) w w1)
    (hq : w1.heap[q]? = some (.cells #[.int .i64 gc, .int .i64 ga, .string ⟨gt.toArray⟩, .bool gl] 37 (0, 0))) : Runs base bo bi bx by' q win size cs r n gc ga gt gl A B C D w1 :=
  ⟨h.fam.mono h1.size, h.out.only h1 (fun b hb e => h.fam.na (e ▸ hb)), h.inn.only h1 (fun b hb e => h.fam.nb (e ▸ hb)), h.rout.only h1 (fun b hb e => h.fam.nc (e ▸ hb)), h.rinn.only h1 (fun b hb e => h.fam.nd (e ▸ hb)), hq⟩
theorem below_drew' (w : World) : Below w.heap.size w w.drew := ⟨rfl, rfl, rfl, Nat.le_refl _, fun _ _ => rfl⟩
end
end Go.Proofs.Ytknoedlelmflhaa
