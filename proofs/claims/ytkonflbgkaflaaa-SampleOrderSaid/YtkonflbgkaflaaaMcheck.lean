/- mark.within, mark.Check: which stamps may be. -/
import Derived.Test.YtkonflbgkaflaaaOpenSt
namespace Go.Proofs.Ytkonflbgkaflaaa
open Go.RowKit
set_option maxRecDepth 100000
set_option linter.unusedVariables false
set_option linter.unusedSimpArgs false
theorem within_any (n : Int) (w : World) : Calls Try.prog 80 #[.int .i64 n] w fun e w' => e = .returned (.bool (inV n)) ∧ w = w' := by
  obtain ⟨V, HV⟩ : ∃ V, Hid (V = inV n) := ⟨_, rfl⟩
  rw [← HV.out]
  unfold inV at HV
  by_cases h1 : 1 ≤ n
  · have t1 : decide (1 ≤ n) = true := decide_eq_true h1
    by_cases h2 : n ≤ 1099511627776
    · have t2 : decide (n ≤ 1099511627776) = true := decide_eq_true h2
      rw [t1, t2] at HV
      go_enter Try.func80, Try.ntmps80
      go_wp2_with fail
      go_ret
      exact ⟨by rw [HV.out]; rfl, rfl⟩
    · have t2 : decide (n ≤ 1099511627776) = false := decide_eq_false h2
      rw [t1, t2] at HV
      go_enter Try.func80, Try.ntmps80
      go_wp2_with fail
      go_ret
      exact ⟨by rw [HV.out]; rfl, rfl⟩
  · have t1 : decide (1 ≤ n) = false := decide_eq_false h1
    rw [t1] at HV
    go_enter Try.func80, Try.ntmps80
    go_wp2_with fail
    go_ret
    exact ⟨by rw [HV.out]; rfl, rfl⟩
def chkV (a : St) : Int := if okV a = true then 0 else 1
set_option maxHeartbeats 1000000 in
theorem check_any (a : St) (w : World) : Calls Try.prog 46 #[a.val] w fun e w' => e = .returned (.int .i64 (chkV a)) ∧ Below w.heap.size w w' := by
  obtain ⟨V, HV⟩ : ∃ V, Hid (V = chkV a) := ⟨_, rfl⟩
  rw [← HV.out]
  obtain ⟨c, s, q⟩ := a
  unfold chkV okV at HV
  unfold St.val
  simp only at HV ⊢
  have hB : Below w.heap.size w (w.alloc (.cells #[.int .i64 c, .int .i64 s, .int .i64 q] 23)) := (Below.refl _ _).alloc (Nat.le_refl _) _
  go_enter Try.func46, Try.ntmps46
  go_wp2_with fail
  refine (within_any c _).mono ?_
  rintro e w1 ⟨rfl, rfl⟩
  cases h1 : inV c
  · rw [h1] at HV
    go_wp2_with fail
    go_ret
    exact ⟨by rw [HV.out]; rfl, hB⟩
  · rw [h1] at HV
    go_wp2_with fail
    refine (within_any q _).mono ?_
    rintro e w1 ⟨rfl, rfl⟩
    cases h2 : inV q
    · rw [h2] at HV
      go_wp2_with fail
      go_ret
      exact ⟨by rw [HV.out]; rfl, hB⟩
    · rw [h2] at HV
      by_cases h3 : s < 0
      · have t3 : decide (s < 0) = true := decide_eq_true h3
        rw [show decide (0 ≤ s) = false from decide_eq_false (by omega)] at HV
        go_wp2_with fail
        go_ret
        exact ⟨by rw [HV.out]; rfl, hB⟩
      · have t3 : decide (s < 0) = false := decide_eq_false h3
        rw [show decide (0 ≤ s) = true from decide_eq_true (by omega)] at HV
        by_cases h4 : 8 ≤ s
        · have t4 : decide (8 ≤ s) = true := decide_eq_true h4
          rw [show decide (s < 8) = false from decide_eq_false (by omega)] at HV
          go_wp2_with fail
          go_ret
          exact ⟨by rw [HV.out]; rfl, hB⟩
        · have t4 : decide (8 ≤ s) = false := decide_eq_false h4
          rw [show decide (s < 8) = true from decide_eq_true (by omega)] at HV
          go_wp2_with fail
          go_ret
          exact ⟨by rw [HV.out]; rfl, hB⟩
end Go.Proofs.Ytkonflbgkaflaaa
