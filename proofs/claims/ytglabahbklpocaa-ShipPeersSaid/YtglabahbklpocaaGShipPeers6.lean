/- slices.Clone and slices.Equal at []int, off the shelf (the layings are what the kit's tool writes, in plain words). -/
import Derived.Test.YtglabahbklpocaaGShipPeers1
import Derived.Shelf.Slices.Clone
import Derived.Shelf.Slices.Equal
import Derived.Shelf.Slices.Empties2
namespace Go.Proofs.Ytglabahbklpocaa
section
open Go.RowKit Go.Shelf Go.Lib
set_option maxRecDepth 100000
set_option linter.unusedVariables false
set_option linter.unusedSimpArgs false
def laysC_ren : Go.Shelf.Ren := ⟨fun | 15 => 38 | n => n, fun | 22 => 26 | 3 => 3 | 4 => 4 | n => n, fun | n => n⟩
theorem laysC : Go.Proofs.Lays2.n15 Try.prog laysC_ren := {
  mixed := by kernel_rfl
  f15 := Try.func38.trans (congrArg some (by kernel_rfl))
  t3 := Try.underlying3
  a3 := Try.isAgg3
  z3 := Try.sizeOf3
  v3 := Try.zeroValue3
  t4 := Try.underlying4
  a4 := Try.isAgg4
  z4 := Try.sizeOf4
  v4 := Try.zeroValue4
  t22 := Try.underlying26
  a22 := Try.isAgg26
  z22 := Try.sizeOf26
  v22 := Try.zeroValue26
  i3 := by kernel_rfl }
def laysE_ren : Go.Shelf.Ren := ⟨fun | 111 => 64 | n => n, fun | 28 => 26 | 3 => 3 | 4 => 4 | 0 => 0 | n => n, fun | n => n⟩
theorem laysE : Go.Proofs.Lays.n111 Try.prog laysE_ren := {
  mixed := by kernel_rfl
  f111 := Try.func64.trans (congrArg some (by kernel_rfl))
  t0 := Try.underlying0
  a0 := Try.isAgg0
  z0 := Try.sizeOf0
  v0 := Try.zeroValue0
  t3 := Try.underlying3
  a3 := Try.isAgg3
  z3 := Try.sizeOf3
  v3 := Try.zeroValue3
  t4 := Try.underlying4
  a4 := Try.isAgg4
  z4 := Try.sizeOf4
  v4 := Try.zeroValue4
  t28 := Try.underlying26
  a28 := Try.isAgg26
  z28 := Try.sizeOf26
  v28 := Try.zeroValue26 }
theorem clone_any (a : Option Addr) (n c : Nat) (xs : List Int) (w : World) (h : ReadsI .i64 w a n xs) (hn : n ≤ 1000) :
    Calls Try.prog 38 #[.slice a n c] w fun e w' => ∃ v', e = .returned v' ∧ w'.ownsRow w.heap.size 3 1 v' n (xs.map (Value.int .i64)) ∧ Below w.heap.size w w' := by
  obtain ⟨h1, h2⟩ := h
  cases a with
  | none =>
    have h0 : n = 0 := by
      rcases h2 with h2 | ⟨b, o, h2, _⟩
      · exact h2
      · simp at h2
    subst h0
    obtain rfl : xs = [] := List.eq_nil_of_length_eq_zero h1
    exact (Any.slices_Clone_int_nil laysC 0 c w).mono fun e w' ⟨h3, h4⟩ => ⟨_, h3, by subst h4; exact World.ownsRow_nil _ _ _ _, by subst h4; exact Below.refl _ _⟩
  | some a =>
    rcases h2 with h2 | ⟨b, o, h2, h3, h4⟩
    · subst h2
      obtain rfl : xs = [] := List.eq_nil_of_length_eq_zero h1
      exact (Any.slices_Clone_int_zero laysC a c w).mono fun e w' ⟨v', h3, h4, _, h5⟩ => ⟨v', h3, h4, h5⟩
    · obtain rfl : a = ⟨b, o, none⟩ := by simpa using h2
      refine (Any.slices_Clone_int laysC b o n c xs w (by omega) (by omega) (fun j hj => h4 j (by omega))).mono fun e w' ⟨v', h3, h5, _, h6⟩ => ⟨v', h3, ?_, h6⟩
      rw [List.take_of_length_le (by omega)] at h5
      exact h5
theorem equal_any (a1 a2 : Option Addr) (n1 n2 c1 c2 : Nat) (xs ys : List Int) (w : World) (h1 : ReadsI .i64 w a1 n1 xs) (h2 : ReadsI .i64 w a2 n2 ys) (hn1 : n1 ≤ 9223372036854775807) (hn2 : n2 ≤ 9223372036854775807) :
    Calls Try.prog 64 #[.slice a1 n1 c1, .slice a2 n2 c2] w fun e w' => e = .returned (.bool (decide (xs = ys))) ∧ Below w.heap.size w w' := by
  obtain ⟨l1, r1⟩ := h1
  obtain ⟨l2, r2⟩ := h2
  by_cases hne : n1 = n2
  · subst hne
    rcases Nat.eq_zero_or_pos n1 with h0 | hp
    · subst h0
      obtain rfl : xs = [] := List.eq_nil_of_length_eq_zero l1
      obtain rfl : ys = [] := List.eq_nil_of_length_eq_zero l2
      exact (Any.slices_Equal_int_empty laysE a1 a2 c1 0 c2 w hn2).mono fun e w' ⟨h3, h4⟩ => ⟨h3, by subst h4; exact Below.refl _ _⟩
    · obtain ⟨b1, o1, rfl, _, hc1⟩ := r1.resolve_left (by omega)
      obtain ⟨b2, o2, rfl, _, hc2⟩ := r2.resolve_left (by omega)
      refine (Any.slices_Equal_int laysE b1 o1 n1 c1 b2 o2 n1 c2 xs ys w (by omega) (by omega) hn1 hn2 (fun j hj => hc1 j (by omega)) (fun j hj => hc2 j (by omega))).mono fun e w' ⟨h3, q, h4⟩ => ⟨?_, ?_⟩
      · rw [h3, List.take_of_length_le (by omega), List.take_of_length_le (by omega)]
        congr 2
        by_cases hxy : xs = ys <;> simp [hxy]
      · subst h4; exact ⟨rfl, rfl, rfl, Nat.le_refl _, fun _ _ => rfl⟩
  · refine (Any.slices_Equal_int_lens laysE a1 a2 n1 c1 n2 c2 w hne).mono fun e w' ⟨h3, h4⟩ => ⟨?_, by subst h4; exact Below.refl _ _⟩
    rw [h3, decide_eq_false (fun h => hne (by rw [← l1, ← l2, h]))]
end
end Go.Proofs.Ytglabahbklpocaa
