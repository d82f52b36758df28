/- VintSigns: for any two numbers the law answers true: a number with a sign that is nearer to 0 has no more bytes; each sign has its own. -/
import Derived.Test.YtgkidcpcgceabaaVawake
import Derived.Test.YtgkidcpcgceabaaVback
import Derived.Test.YtgkidcpcgceabaaVall
namespace Go.Proofs.Ytgkidcpcgceabaa
open Go.RowKit
set_option linter.unusedVariables false
set_option linter.unusedSimpArgs false
theorem mod2_zig (a : Int) (h0 : -9223372036854775808 ≤ a) (h1 : a ≤ 9223372036854775807) : zig a % 2 = IntKind.u64.wrap a / 9223372036854775808 := by
  rw [wrap_u64]; unfold zig; split <;> omega
theorem zig_near (a b : Int) (h : (0 ≤ a ∧ 0 ≤ b ∧ a ≤ b) ∨ (a < 0 ∧ b < 0 ∧ b ≤ a)) : zig a ≤ zig b := by unfold zig; split <;> split <;> omega
theorem zig_eq (a b : Int) : (zig a == zig b) = (a == b) := by
  by_cases h : a = b
  · subst h; simp
  · rw [beq_eq_false_iff_ne.2 h, beq_eq_false_iff_ne]
    intro e
    exact h (by rw [← zag_zig a, ← zag_zig b, e])
set_option maxHeartbeats 1000000 in
theorem signs_any (a b : Int) (w : World) (ha0 : -9223372036854775808 ≤ a) (ha1 : a ≤ 9223372036854775807) (hb0 : -9223372036854775808 ≤ b) (hb1 : b ≤ 9223372036854775807) :
    Calls Try.prog 5 #[.int .i64 a, .int .i64 b] w fun e w' => e = .returned (.bool true) ∧ Below w.heap.size w w' := by
  go_enter Try.func5, Try.ntmps5
  go_wp2_with fail
  refine (awake_any _).mono ?_
  rintro e w1 ⟨rfl, hb1'⟩
  have hza := zig_range a ha0 ha1
  have hzb := zig_range b hb0 hb1
  have HE := Lib.hid ((vput_eq_iff hza.1 hza.2 hzb.1 hzb.2).trans (zig_eq a b))
  have HN : (0 ≤ a ∧ 0 ≤ b ∧ a ≤ b) ∨ (a < 0 ∧ b < 0 ∧ b ≤ a) → (vput (zig a)).size ≤ (vput (zig b)).size := fun h => vput_mono (zig_near a b h)
  have HM := Lib.hid (mod2_zig a ha0 ha1)
  have hA1 := vput_le (zig a)
  have hB1 := vput_le (zig b)
  have HN' := Lib.hid HN
  clear HN
  go_wp2_with fail
  refine (all1_any a _ ha0 ha1).mono ?_
  rintro e w2 ⟨rfl, hb2⟩
  go_wp2_with fail
  refine (all1_any b _ hb0 hb1).mono ?_
  rintro e w3 ⟨rfl, hb3⟩
  have hbA := below_then (below_then hb1' hb1'.size hb2) (Nat.le_trans hb1'.size hb2.size) hb3
  generalize hS : vput (zig a) = S at *
  generalize hT : vput (zig b) = T at *
  have HST := Lib.hid (And.intro hS hT)
  clear hS hT
  have t4 := HE.out
  have t9 := HM.out
  have hz1 : S.size + T.size ≤ 20 := by omega
  by_cases ha : 0 ≤ a <;> by_cases hb : 0 ≤ b <;> by_cases hab : a ≤ b <;> by_cases hba : b ≤ a
  all_goals first | (exfalso; omega) | skip
  all_goals
    first
    | have d1 : decide (0 ≤ a) = true := decide_eq_true ha
    | have d1 : decide (0 ≤ a) = false := decide_eq_false ha
    first
    | have d2 : decide (0 ≤ b) = true := decide_eq_true hb
    | have d2 : decide (0 ≤ b) = false := decide_eq_false hb
    first
    | have d3 : decide (a ≤ b) = true := decide_eq_true hab
    | have d3 : decide (a ≤ b) = false := decide_eq_false hab
    first
    | have d4 : decide (S.size ≤ T.size) = true := decide_eq_true (HN'.out (by omega))
    | skip
    first
    | have d5 : decide (b ≤ a) = true := decide_eq_true (show b ≤ a by omega)
    | have d5 : decide (b ≤ a) = false := decide_eq_false (show ¬ b ≤ a by omega)
    first
    | have d6 : decide (a < 0) = true := decide_eq_true (show a < 0 by omega)
    | have d6 : decide (a < 0) = false := decide_eq_false (show ¬ a < 0 by omega)
    first
    | have d7 : decide (b < 0) = true := decide_eq_true (show b < 0 by omega)
    | have d7 : decide (b < 0) = false := decide_eq_false (show ¬ b < 0 by omega)
    clear ha hb hab hba
    go_wp2_with fail
    refine (zig_any a _ ha0 ha1).mono ?_
    rintro e w4 ⟨rfl, rfl⟩
    go_wp2_with fail
    refine (all2_any a b _ ha0 ha1 hb0 hb1).mono ?_
    rintro e w4 ⟨rfl, hb4⟩
    rw [HST.out.1, HST.out.2]
    go_wp2
    go_ret
    exact ⟨rfl, hbA.trans (hb4.mono (Nat.le_trans hb1'.size (Nat.le_trans hb2.size hb3.size)))⟩
end Go.Proofs.Ytgkidcpcgceabaa
