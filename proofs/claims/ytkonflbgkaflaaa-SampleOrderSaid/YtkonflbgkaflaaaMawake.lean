/- The chapter's examples hold: the contract of 'awake'. -/
import Derived.Test.YtkonflbgkaflaaaMtext
namespace Go.Proofs.Ytkonflbgkaflaaa
open Go.RowKit
set_option maxRecDepth 100000
set_option linter.unusedVariables false
set_option linter.unusedSimpArgs false
theorem ReadsI.alloc {k : IntKind} {w : World} {a : Option Addr} {n : Nat} {xs : List Int} (h : ReadsI k w a n xs) (o : Obj) : ReadsI k (w.alloc o) a n xs := h.below ((Below.refl _ _).alloc (Nat.le_refl _) _)
section
variable (xs ys zs : List Int) (w : World) (cx cy : Array Value) (nx ny nz : Nat) (hcx : cx = (xs.map (Value.int .i64)).toArray) (hcy : cy = (ys.map (Value.int .i64)).toArray) (hnx : nx = xs.length) (hny : ny = ys.length) (hnz : nz = zs.length) (hx : xs.length ≤ 100) (hy : ys.length ≤ 100) (hz : zs.length ≤ 100)
include hcx hcy hnx hny
theorem reads2 : ReadsI .i64 ((w.alloc (.cells cx 3)).alloc (.cells cy 3)) (some ⟨w.heap.size, 0, none⟩) nx xs ∧ ReadsI .i64 ((w.alloc (.cells cx 3)).alloc (.cells cy 3)) (some ⟨w.heap.size + 1, 0, none⟩) ny ys ∧ Below w.heap.size w ((w.alloc (.cells cx 3)).alloc (.cells cy 3)) := by
  subst hcx hcy hnx hny
  refine ⟨(reads_new .i64 w xs _).alloc _, ?_, ((Below.refl w.heap.size w).alloc (Nat.le_refl _) _).alloc (by simp) _⟩
  have := reads_new .i64 (w.alloc (.cells (xs.map (Value.int .i64)).toArray 3)) ys 3
  simpa using this
include hx hy
end
theorem same_ex (zs : List Int) (w : World) (a : Option Addr) (cz : Array Value) (nz : Nat) (hcz : cz = (zs.map (Value.int .i64)).toArray) (hnz : nz = zs.length) (hz : zs.length ≤ 100) (h : ReadsI .i64 w a nz zs) :
    Calls Try.prog 75 #[.slice a nz nz, .slice (some ⟨w.heap.size, 0, none⟩) nz nz] (w.alloc (.cells cz 3)) fun e w' => e = .returned (.bool true) ∧ Below w.heap.size w w' := by
  subst hcz hnz
  have hB := (Below.refl w.heap.size w).alloc (Nat.le_refl _) (.cells (zs.map (Value.int .i64)).toArray 3)
  exact (same_any _ _ _ _ _ _ zs zs _ (h.alloc _) (reads_new .i64 w zs _) (Nat.le_refl _) (by omega) (Nat.le_refl _) (by omega)).mono fun e w' ⟨h1, h2⟩ => ⟨by rw [h1]; simp, below_then hB hB.size h2⟩
end Go.Proofs.Ytkonflbgkaflaaa
