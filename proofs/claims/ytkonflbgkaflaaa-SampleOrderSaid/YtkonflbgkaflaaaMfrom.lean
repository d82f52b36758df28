/- The vectors' contracts, from a world that lies further back. -/
import Derived.Test.YtkonflbgkaflaaaMawake
import Derived.Test.YtkonflbgkaflaaaOpenI
namespace Go.Proofs.Ytkonflbgkaflaaa
open Go.RowKit
set_option maxRecDepth 100000
set_option linter.unusedVariables false
set_option linter.unusedSimpArgs false
/-- A slice that reads xs. -/
structure SlI (w : World) (a : Option Addr) (n c : Nat) (xs : List Int) : Prop where
  r : ReadsI .i64 w a n xs
  h1 : n ≤ c
  h2 : c ≤ 9223372036854775807
theorem SlI.below {w w' : World} {a : Option Addr} {n c : Nat} {xs : List Int} (h : SlI w a n c xs) (hb : Below w.heap.size w w') : SlI w' a n c xs := ⟨h.r.below hb, h.h1, h.h2⟩
theorem VecAt.sl {w : World} {B : Nat} {a : Option Addr} {l : List Int} (h : VecAt w B a l) (h8 : l.length ≤ 8) : SlI w a l.length l.length l := ⟨h.reads, Nat.le_refl _, by omega⟩
section
variable {w0 : World} {a1 a2 : Option Addr} {n1 c1 n2 c2 : Nat} {xs ys : List Int}
theorem same_from (wx : World) (hA : SlI w0 a1 n1 c1 xs) (hB : SlI w0 a2 n2 c2 ys) (hb : Below w0.heap.size w0 wx) :
    Calls Try.prog 75 #[.slice a1 n1 c1, .slice a2 n2 c2] wx fun e w' => e = .returned (.bool (decide (xs = ys))) ∧ Below w0.heap.size w0 w' :=
  (same_any _ _ _ _ _ _ xs ys wx (hA.r.below hb) (hB.r.below hb) hA.h1 hA.h2 hB.h1 hB.h2).mono fun e w' ⟨h1, h2⟩ => ⟨h1, below_then hb hb.size h2⟩
theorem right_from (wx : World) (hA : SlI w0 a1 n1 c1 xs) (hb : Below w0.heap.size w0 wx) :
    Calls Try.prog 47 #[.slice a1 n1 c1] wx fun e w' => e = .returned (.bool (decide (xs = pl xs))) ∧ Below w0.heap.size w0 w' :=
  (right_any _ _ _ xs wx (hA.r.below hb) hA.h1 hA.h2).mono fun e w' ⟨h1, h2⟩ => ⟨h1, below_then hb hb.size h2⟩
end
end Go.Proofs.Ytkonflbgkaflaaa
