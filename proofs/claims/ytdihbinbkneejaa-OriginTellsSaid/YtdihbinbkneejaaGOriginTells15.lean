/- A stamp among the arguments, as a walk is told of it. mark.within, mark.Check: which stamps may be. -/
import Derived.Test.YtdihbinbkneejaaGOriginTells14
import Derived.ProofKit
import Derived.OpenShut
import Derived.Lib.SmallJoins
namespace Go.Proofs.Ytdihbinbkneejaa
section
open Go.ChangeShapes Go.WideShapes Go.ChangeAt Go.RowKit Go.Joins Go.Deep
set_option maxRecDepth 100000
set_option linter.unusedVariables false
set_option linter.unusedSimpArgs false
def St.wf (a : St) : Prop := (-9223372036854775808 ≤ a.clock ∧ a.clock ≤ 9223372036854775807) ∧ (-9223372036854775808 ≤ a.site ∧ a.site ≤ 9223372036854775807) ∧ (-9223372036854775808 ≤ a.seq ∧ a.seq ≤ 9223372036854775807)
def IsSt (w : World) (v : Value) (a : St) : Prop := v = a.val ∧ a.wf
theorem open_isSt {H : Type} {enc : TypeId × Value → H} {P : Program} {W : World} {r : Reach} {b0 : Nat} {t : TypeId} {f0 f1 f2 : Field} {v : Value} {d : DataW H} {ps : List MemPlace}
    (hs : P.underlying t = some (.struct #[f0, f1, f2])) (hone : oneCellFields P #[f0, f1, f2] = true) (hC : P.cellsOf t = 3) (t0 : P.underlying f0.type = some (.int .i64)) (t1 : P.underlying f1.type = some (.int .i64)) (t2 : P.underlying f2.type = some (.int .i64))
    (hval : Value.okWide P W r b0 t v) (hd : DataW.Trod enc P W 0 (fun _ => true) true t v d ps) : ∃ a, IsSt W v a := by
  obtain ⟨v0, v1, v2, y0, y1, y2, n, rfl, _, _, h0, h1, h2⟩ := open_agg3 hs hone hC hval hd
  obtain ⟨x0, e0, _, w0⟩ := DataW.trod_int t0 h0
  obtain ⟨x1, e1, _, w1⟩ := DataW.trod_int t1 h1
  obtain ⟨x2, e2, _, w2⟩ := DataW.trod_int t2 h2
  simp only [List.cons.injEq, and_true] at e0 e1 e2
  subst e0 e1 e2
  exact ⟨⟨x0, x1, x2⟩, rfl, bounds_i64 w0, bounds_i64 w1, bounds_i64 w2⟩
end
end Go.Proofs.Ytdihbinbkneejaa
namespace Go.Proofs.Ytdihbinbkneejaa
section
open Go.RowKit
set_option maxRecDepth 100000
set_option linter.unusedVariables false
set_option linter.unusedSimpArgs false
theorem within_any (n : Int) (w : World) : Calls Try.prog 63 #[.int .i64 n] w fun e w' => e = .returned (.bool (inV n)) ∧ w = w' := by
  obtain ⟨V, HV⟩ : ∃ V, Hid (V = inV n) := ⟨_, rfl⟩
  rw [← HV.out]
  unfold inV at HV
  by_cases h1 : 1 ≤ n
  · have t1 : decide (1 ≤ n) = true := decide_eq_true h1
    by_cases h2 : n ≤ 1099511627776
    · have t2 : decide (n ≤ 1099511627776) = true := decide_eq_true h2
      rw [t1, t2] at HV
      go_enter Try.func63, Try.ntmps63
      go_wp2_with fail
      go_ret
      exact ⟨by rw [HV.out]; rfl, rfl⟩
    · have t2 : decide (n ≤ 1099511627776) = false := decide_eq_false h2
      rw [t1, t2] at HV
      go_enter Try.func63, Try.ntmps63
      go_wp2_with fail
      go_ret
      exact ⟨by rw [HV.out]; rfl, rfl⟩
  · have t1 : decide (1 ≤ n) = false := decide_eq_false h1
    rw [t1] at HV
    go_enter Try.func63, Try.ntmps63
    go_wp2_with fail
    go_ret
    exact ⟨by rw [HV.out]; rfl, rfl⟩
def chkV (a : St) : Int := if okV a = true then 0 else 1
set_option maxHeartbeats 1000000 in
theorem check_any (a : St) (w : World) : Calls Try.prog 54 #[a.val] w fun e w' => e = .returned (.int .i64 (chkV a)) ∧ Below w.heap.size w w' := by
  obtain ⟨V, HV⟩ : ∃ V, Hid (V = chkV a) := ⟨_, rfl⟩
  rw [← HV.out]
  obtain ⟨c, s, q⟩ := a
  unfold chkV okV at HV
  unfold St.val
  simp only at HV ⊢
  have hB : Below w.heap.size w (w.alloc (.cells #[.int .i64 c, .int .i64 s, .int .i64 q] 27)) := (Below.refl _ _).alloc (Nat.le_refl _) _
  go_enter Try.func54, Try.ntmps54
  go_wp2_with fail
  refine (within_any c _).mono ?_
  rintro e w1 ⟨rfl, rfl⟩
  cases h1 : inV c
  · rw [h1] at HV
    go_wp2_with fail
    go_ret
    exact ⟨by rw [HV.out]; rfl, hB⟩
  · rw [h1] at HV
    go_wp2_with fail
    refine (within_any q _).mono ?_
    rintro e w1 ⟨rfl, rfl⟩
    cases h2 : inV q
    · rw [h2] at HV
      go_wp2_with fail
      go_ret
      exact ⟨by rw [HV.out]; rfl, hB⟩
    · rw [h2] at HV
      by_cases h3 : s < 0
      · have t3 : decide (s < 0) = true := decide_eq_true h3
        rw [show decide (0 ≤ s) = false from decide_eq_false (by omega)] at HV
        go_wp2_with fail
        go_ret
        exact ⟨by rw [HV.out]; rfl, hB⟩
      · have t3 : decide (s < 0) = false := decide_eq_false h3
        rw [show decide (0 ≤ s) = true from decide_eq_true (by omega)] at HV
        by_cases h4 : 8 ≤ s
        · have t4 : decide (8 ≤ s) = true := decide_eq_true h4
          rw [show decide (s < 8) = false from decide_eq_false (by omega)] at HV
          go_wp2_with fail
          go_ret
          exact ⟨by rw [HV.out]; rfl, hB⟩
        · have t4 : decide (8 ≤ s) = false := decide_eq_false h4
          rw [show decide (s < 8) = true from decide_eq_true (by omega)] at HV
          go_wp2_with fail
          go_ret
          exact ⟨by rw [HV.out]; rfl, hB⟩
end
end Go.Proofs.Ytdihbinbkneejaa
