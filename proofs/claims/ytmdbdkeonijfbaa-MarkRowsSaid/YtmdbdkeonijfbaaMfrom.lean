/- The vectors' contracts, from a world that lies further back. -/
import Derived.Test.YtmdbdkeonijfbaaMawake
import Derived.Test.YtmdbdkeonijfbaaOpenI
namespace Go.Proofs.Ytmdbdkeonijfbaa
open Go.RowKit
set_option linter.unusedVariables false
set_option linter.unusedSimpArgs false
/-- A slice that reads xs. -/
structure SlI (w : World) (a : Option Addr) (n c : Nat) (xs : List Int) : Prop where
  r : ReadsI .i64 w a n xs
  h1 : n ≤ c
  h2 : c ≤ 9223372036854775807
theorem SlI.below {w w' : World} {a : Option Addr} {n c : Nat} {xs : List Int} (h : SlI w a n c xs) (hb : Below w.heap.size w w') : SlI w' a n c xs := ⟨h.r.below hb, h.h1, h.h2⟩
theorem VecAt.sl {w : World} {B : Nat} {a : Option Addr} {l : List Int} (h : VecAt w B a l) (h8 : l.length ≤ 8) : SlI w a l.length l.length l := ⟨h.reads, Nat.le_refl _, by omega⟩
section
variable {w0 : World} {a1 a2 : Option Addr} {n1 c1 n2 c2 : Nat} {xs ys : List Int}
theorem cov_from (wx : World) (hA : SlI w0 a1 n1 c1 xs) (hB : SlI w0 a2 n2 c2 ys) (hb : Below w0.heap.size w0 wx) :
    Calls Try.prog 14 #[.slice a1 n1 c1, .slice a2 n2 c2] wx fun e w' => e = .returned (.bool (covV xs ys)) ∧ Below w0.heap.size w0 w' :=
  (covers_any _ _ _ _ _ _ xs ys wx (hA.r.below hb) (hB.r.below hb) hA.h1 hA.h2 hB.h1 hB.h2).mono fun e w' ⟨h1, h2⟩ => ⟨h1, below_then hb hb.size h2⟩
theorem cmp_from (wx : World) (hA : SlI w0 a1 n1 c1 xs) (hB : SlI w0 a2 n2 c2 ys) (hb : Below w0.heap.size w0 wx) :
    Calls Try.prog 25 #[.slice a1 n1 c1, .slice a2 n2 c2] wx fun e w' => e = .returned (.int .i64 (cmpV xs ys)) ∧ Below w0.heap.size w0 w' :=
  (compare_any _ _ _ _ _ _ xs ys wx (hA.r.below hb) (hB.r.below hb) hA.h1 hA.h2 hB.h1 hB.h2).mono fun e w' ⟨h1, h2⟩ => ⟨h1, below_then hb hb.size h2⟩
theorem same_from (wx : World) (hA : SlI w0 a1 n1 c1 xs) (hB : SlI w0 a2 n2 c2 ys) (hb : Below w0.heap.size w0 wx) :
    Calls Try.prog 15 #[.slice a1 n1 c1, .slice a2 n2 c2] wx fun e w' => e = .returned (.bool (decide (xs = ys))) ∧ Below w0.heap.size w0 w' :=
  (same_any _ _ _ _ _ _ xs ys wx (hA.r.below hb) (hB.r.below hb) hA.h1 hA.h2 hB.h1 hB.h2).mono fun e w' ⟨h1, h2⟩ => ⟨h1, below_then hb hb.size h2⟩
theorem join_from (wx : World) (hA : SlI w0 a1 n1 c1 xs) (hB : SlI w0 a2 n2 c2 ys) (hb : Below w0.heap.size w0 wx) :
    Calls Try.prog 12 #[.slice a1 n1 c1, .slice a2 n2 c2] wx fun e w' => ∃ a' n', e = .returned (.slice a' n' n') ∧ SlI w' a' n' n' (joinV xs ys) ∧ Below w0.heap.size w0 w' :=
  (join_any _ _ _ _ _ _ xs ys wx (hA.r.below hb) (hB.r.below hb) hA.h1 hA.h2 hB.h1 hB.h2).mono fun e w' ⟨a', h1, h2, h3⟩ => ⟨a', _, h1, h2.sl (joinV_length _ _), below_then hb hb.size h3⟩
theorem meet_from (wx : World) (hA : SlI w0 a1 n1 c1 xs) (hB : SlI w0 a2 n2 c2 ys) (hb : Below w0.heap.size w0 wx) :
    Calls Try.prog 13 #[.slice a1 n1 c1, .slice a2 n2 c2] wx fun e w' => ∃ a' n', e = .returned (.slice a' n' n') ∧ SlI w' a' n' n' (meetV xs ys) ∧ Below w0.heap.size w0 w' :=
  (meet_any _ _ _ _ _ _ xs ys wx (hA.r.below hb) (hB.r.below hb) hA.h1 hA.h2 hB.h1 hB.h2).mono fun e w' ⟨a', h1, h2, h3⟩ => ⟨a', _, h1, h2.sl (meetV_length _ _), below_then hb hb.size h3⟩
theorem right_from (wx : World) (hA : SlI w0 a1 n1 c1 xs) (hb : Below w0.heap.size w0 wx) :
    Calls Try.prog 16 #[.slice a1 n1 c1] wx fun e w' => e = .returned (.bool (decide (xs = pl xs))) ∧ Below w0.heap.size w0 w' :=
  (right_any _ _ _ xs wx (hA.r.below hb) hA.h1 hA.h2).mono fun e w' ⟨h1, h2⟩ => ⟨h1, below_then hb hb.size h2⟩
theorem few_from (wx : World) (hA : SlI w0 a1 n1 c1 xs) (hb : Below w0.heap.size w0 wx) :
    Calls Try.prog 11 #[.slice a1 n1 c1] wx fun e w' => ∃ n' c', e = .returned (.slice a1 n' c') ∧ SlI w0 a1 n' c' (xs.take 12) ∧ wx = w' := by
  refine (few_any _ _ _ xs wx (hA.r.below hb) hA.h1 hA.h2).mono fun e w' ⟨c', h1, h2, h3, h4⟩ => ⟨_, c', h1, ⟨?_, h2, h3⟩, h4⟩
  have h := hA.r.take (min n1 12) (Nat.min_le_left _ _)
  have e : xs.take (min n1 12) = xs.take 12 := by
    have hl := hA.r.1
    rcases Nat.le_total n1 12 with h | h
    · rw [Nat.min_eq_left h, List.take_of_length_le (by omega), List.take_of_length_le (by omega)]
    · rw [Nat.min_eq_right h]
  rw [e] at h
  exact h
end
end Go.Proofs.Ytmdbdkeonijfbaa
