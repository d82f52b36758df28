/- The chapter's examples hold: the contract of 'awake'. The vectors' contracts, from a world that lies further back. -/
import Derived.Test.YtglabahbklpocaaGShipTurns38
import Derived.Test.YtglabahbklpocaaGShipTurns26
namespace Go.Proofs.Ytglabahbklpocaa
section
open Go.RowKit
set_option maxRecDepth 100000
set_option linter.unusedVariables false
set_option linter.unusedSimpArgs false
theorem ReadsI.alloc {k : IntKind} {w : World} {a : Option Addr} {n : Nat} {xs : List Int} (h : ReadsI k w a n xs) (o : Obj) : ReadsI k (w.alloc o) a n xs := h.below ((Below.refl _ _).alloc (Nat.le_refl _) _)
section
variable (xs ys zs : List Int) (w : World) (cx cy : Array Value) (nx ny nz : Nat) (hcx : cx = (xs.map (Value.int .i64)).toArray) (hcy : cy = (ys.map (Value.int .i64)).toArray) (hnx : nx = xs.length) (hny : ny = ys.length) (hnz : nz = zs.length) (hx : xs.length ≤ 100) (hy : ys.length ≤ 100) (hz : zs.length ≤ 100)
include hcx hcy hnx hny
theorem reads2 : ReadsI .i64 ((w.alloc (.cells cx 3)).alloc (.cells cy 3)) (some ⟨w.heap.size, 0, none⟩) nx xs ∧ ReadsI .i64 ((w.alloc (.cells cx 3)).alloc (.cells cy 3)) (some ⟨w.heap.size + 1, 0, none⟩) ny ys ∧ Below w.heap.size w ((w.alloc (.cells cx 3)).alloc (.cells cy 3)) := by
  subst hcx hcy hnx hny
  refine ⟨(reads_new .i64 w xs _).alloc _, ?_, ((Below.refl w.heap.size w).alloc (Nat.le_refl _) _).alloc (by simp) _⟩
  have := reads_new .i64 (w.alloc (.cells (xs.map (Value.int .i64)).toArray 3)) ys 3
  simpa using this
include hx hy
include hnz
theorem join_ex (h : joinV xs ys = zs) :
    Calls Try.prog 35 #[.slice (some ⟨w.heap.size, 0, none⟩) nx nx, .slice (some ⟨w.heap.size + 1, 0, none⟩) ny ny] ((w.alloc (.cells cx 3)).alloc (.cells cy 3)) fun e w' => ∃ a', e = .returned (.slice a' nz nz) ∧ ReadsI .i64 w' a' nz zs ∧ Below w.heap.size w w' := by
  obtain ⟨h1, h2, h3⟩ := reads2 xs ys w cx cy nx ny hcx hcy hnx hny
  exact (join_any _ _ _ _ _ _ xs ys _ h1 h2 (Nat.le_refl _) (by omega) (Nat.le_refl _) (by omega)).mono fun e w' ⟨a', h4, h5, h6⟩ => ⟨a', by rw [h4, h, hnz], by subst h hnz; exact h5.reads, below_then h3 h3.size h6⟩
theorem meet_ex (h : meetV xs ys = zs) :
    Calls Try.prog 39 #[.slice (some ⟨w.heap.size, 0, none⟩) nx nx, .slice (some ⟨w.heap.size + 1, 0, none⟩) ny ny] ((w.alloc (.cells cx 3)).alloc (.cells cy 3)) fun e w' => ∃ a', e = .returned (.slice a' nz nz) ∧ ReadsI .i64 w' a' nz zs ∧ Below w.heap.size w w' := by
  obtain ⟨h1, h2, h3⟩ := reads2 xs ys w cx cy nx ny hcx hcy hnx hny
  exact (meet_any _ _ _ _ _ _ xs ys _ h1 h2 (Nat.le_refl _) (by omega) (Nat.le_refl _) (by omega)).mono fun e w' ⟨a', h4, h5, h6⟩ => ⟨a', by rw [h4, h, hnz], by subst h hnz; exact h5.reads, below_then h3 h3.size h6⟩
end
theorem same_ex (zs : List Int) (w : World) (a : Option Addr) (cz : Array Value) (nz : Nat) (hcz : cz = (zs.map (Value.int .i64)).toArray) (hnz : nz = zs.length) (hz : zs.length ≤ 100) (h : ReadsI .i64 w a nz zs) :
    Calls Try.prog 17 #[.slice a nz nz, .slice (some ⟨w.heap.size, 0, none⟩) nz nz] (w.alloc (.cells cz 3)) fun e w' => e = .returned (.bool true) ∧ Below w.heap.size w w' := by
  subst hcz hnz
  have hB := (Below.refl w.heap.size w).alloc (Nat.le_refl _) (.cells (zs.map (Value.int .i64)).toArray 3)
  exact (same_any _ _ _ _ _ _ zs zs _ (h.alloc _) (reads_new .i64 w zs _) (Nat.le_refl _) (by omega) (Nat.le_refl _) (by omega)).mono fun e w' ⟨h1, h2⟩ => ⟨by rw [h1]; simp, below_then hB hB.size h2⟩
end
end Go.Proofs.Ytglabahbklpocaa
namespace Go.Proofs.Ytglabahbklpocaa
section
open Go.RowKit
set_option maxRecDepth 100000
set_option linter.unusedVariables false
set_option linter.unusedSimpArgs false
/-- A slice that reads xs. -/
structure SlI (w : World) (a : Option Addr) (n c : Nat) (xs : List Int) : Prop where
  r : ReadsI .i64 w a n xs
  h1 : n ≤ c
  h2 : c ≤ 9223372036854775807
theorem SlI.below {w w' : World} {a : Option Addr} {n c : Nat} {xs : List Int} (h : SlI w a n c xs) (hb : Below w.heap.size w w') : SlI w' a n c xs := ⟨h.r.below hb, h.h1, h.h2⟩
theorem VecAt.sl {w : World} {B : Nat} {a : Option Addr} {l : List Int} (h : VecAt w B a l) (h8 : l.length ≤ 8) : SlI w a l.length l.length l := ⟨h.reads, Nat.le_refl _, by omega⟩
section
variable {w0 : World} {a1 a2 : Option Addr} {n1 c1 n2 c2 : Nat} {xs ys : List Int}
theorem cov_from (wx : World) (hA : SlI w0 a1 n1 c1 xs) (hB : SlI w0 a2 n2 c2 ys) (hb : Below w0.heap.size w0 wx) :
    Calls Try.prog 34 #[.slice a1 n1 c1, .slice a2 n2 c2] wx fun e w' => e = .returned (.bool (covV xs ys)) ∧ Below w0.heap.size w0 w' :=
  (covers_any _ _ _ _ _ _ xs ys wx (hA.r.below hb) (hB.r.below hb) hA.h1 hA.h2 hB.h1 hB.h2).mono fun e w' ⟨h1, h2⟩ => ⟨h1, below_then hb hb.size h2⟩
theorem same_from (wx : World) (hA : SlI w0 a1 n1 c1 xs) (hB : SlI w0 a2 n2 c2 ys) (hb : Below w0.heap.size w0 wx) :
    Calls Try.prog 17 #[.slice a1 n1 c1, .slice a2 n2 c2] wx fun e w' => e = .returned (.bool (decide (xs = ys))) ∧ Below w0.heap.size w0 w' :=
  (same_any _ _ _ _ _ _ xs ys wx (hA.r.below hb) (hB.r.below hb) hA.h1 hA.h2 hB.h1 hB.h2).mono fun e w' ⟨h1, h2⟩ => ⟨h1, below_then hb hb.size h2⟩
theorem join_from (wx : World) (hA : SlI w0 a1 n1 c1 xs) (hB : SlI w0 a2 n2 c2 ys) (hb : Below w0.heap.size w0 wx) :
    Calls Try.prog 35 #[.slice a1 n1 c1, .slice a2 n2 c2] wx fun e w' => ∃ a' n', e = .returned (.slice a' n' n') ∧ SlI w' a' n' n' (joinV xs ys) ∧ Below w0.heap.size w0 w' :=
  (join_any _ _ _ _ _ _ xs ys wx (hA.r.below hb) (hB.r.below hb) hA.h1 hA.h2 hB.h1 hB.h2).mono fun e w' ⟨a', h1, h2, h3⟩ => ⟨a', _, h1, h2.sl (joinV_length _ _), below_then hb hb.size h3⟩
theorem meet_from (wx : World) (hA : SlI w0 a1 n1 c1 xs) (hB : SlI w0 a2 n2 c2 ys) (hb : Below w0.heap.size w0 wx) :
    Calls Try.prog 39 #[.slice a1 n1 c1, .slice a2 n2 c2] wx fun e w' => ∃ a' n', e = .returned (.slice a' n' n') ∧ SlI w' a' n' n' (meetV xs ys) ∧ Below w0.heap.size w0 w' :=
  (meet_any _ _ _ _ _ _ xs ys wx (hA.r.below hb) (hB.r.below hb) hA.h1 hA.h2 hB.h1 hB.h2).mono fun e w' ⟨a', h1, h2, h3⟩ => ⟨a', _, h1, h2.sl (meetV_length _ _), below_then hb hb.size h3⟩
theorem right_from (wx : World) (hA : SlI w0 a1 n1 c1 xs) (hb : Below w0.heap.size w0 wx) :
    Calls Try.prog 78 #[.slice a1 n1 c1] wx fun e w' => e = .returned (.bool (decide (xs = pl xs))) ∧ Below w0.heap.size w0 w' :=
  (right_any _ _ _ xs wx (hA.r.below hb) hA.h1 hA.h2).mono fun e w' ⟨h1, h2⟩ => ⟨h1, below_then hb hb.size h2⟩
end
end
end Go.Proofs.Ytglabahbklpocaa
