/- wide.Cmp, wide.Small; == of two numbers. -/
import Derived.Test.YtojnooagifhekaaWadd
import Derived.Laws.StructEq
import Derived.Deep.RegionHeld3
namespace Go.Proofs.Ytojnooagifhekaa
open Go.RowKit
set_option maxRecDepth 100000
set_option linter.unusedVariables false
set_option linter.unusedSimpArgs false
theorem eq_wide (h1 l1 h2 l2 : Int) (w : World) : (binOp .eql 24 (.agg #[.int .i64 h1, .int .u64 l1]) (.agg #[.int .i64 h2, .int .u64 l2])).run Try.prog w = .ok (.bool (decide ((⟨h1, l1⟩ : Wd) = ⟨h2, l2⟩))) w := by
  have u3 := Try.underlying2
  have a3 := Try.isAgg2
  have z3 := Try.sizeOf2
  have u4 := Try.underlying22
  have a4 := Try.isAgg22
  have z4 := Try.sizeOf22
  have hS : Try.prog.underlying 24 = some (.struct (Try.prog.fieldsOf 24)) := by kernel_rfl
  have hp : Try.prog.stoodInHeld 24 = false := by kernel_rfl
  rw [run_eql_struct, show (10000 : Nat) = 9999 + 1 from rfl, run_equalIn_agg w 9999 24 _ _ hS hp]
  simp only [Program.fieldsOf, Try.underlying24]
  go_simp
  by_cases h1 : h1 = h2 <;> by_cases h2 : l1 = l2 <;> simp [h1, h2]
theorem cmpW_eq (a b : Wd) (ha : a.ok) (hb : b.ok) : cmpW a b = if a = b then 0 else if a.hi < b.hi ∨ a.hi = b.hi ∧ a.lo < b.lo then -1 else 1 := by
  unfold cmpW
  by_cases h : a = b
  · subst h; simp
  · rw [if_neg h, if_neg (fun e => h (v_inj ha hb e))]
    obtain ⟨⟨h1, h2⟩, h3, h4⟩ := ha
    obtain ⟨⟨k1, k2⟩, k3, k4⟩ := hb
    unfold Wd.v
    by_cases c : a.hi < b.hi ∨ a.hi = b.hi ∧ a.lo < b.lo
    · rw [if_pos c, if_pos (by omega)]
    · rw [if_neg c, if_neg (by
        intro hh
        apply c
        omega)]
set_option maxHeartbeats 1000000 in
theorem cmp_any (a b : Wd) (w : World) (ha : a.ok) (hb : b.ok) : Calls Try.prog 67 #[a.val, b.val] w fun e w' => e = .returned (.int .i64 (cmpW a b)) ∧ Below w.heap.size w w' := by
  have HC := Lib.hid (cmpW_eq a b ha hb)
  obtain ⟨h1, l1⟩ := a
  obtain ⟨h2, l2⟩ := b
  unfold Wd.val
  simp only
  have hB : Below w.heap.size w ((w.alloc (.cells #[.int .i64 h1, .int .u64 l1] 24)).alloc (.cells #[.int .i64 h2, .int .u64 l2] 24)) := below_al (below_al (Below.refl _ _))
  have hq := fun w => eq_wide h1 l1 h2 l2 w
  by_cases he : (⟨h1, l1⟩ : Wd) = ⟨h2, l2⟩
  · have HC2 := Lib.hid (HC.out.trans (if_pos he))
    rw [decide_eq_true he] at hq
    clear he HC
    go_enter Try.func67, Try.ntmps67
    go_wp2_with fail
    go_ret
    exact ⟨by rw [HC2.out]; rfl, hB⟩
  · have HC1 := Lib.hid (HC.out.trans (if_neg he))
    rw [decide_eq_false he] at hq
    clear he HC
    by_cases c1 : h1 < h2
    · have t1 : decide (h1 < h2) = true := decide_eq_true c1
      have HC2 := Lib.hid (HC1.out.trans (if_pos (.inl c1)))
      go_enter Try.func67, Try.ntmps67
      go_wp2_with fail
      go_ret
      exact ⟨by rw [HC2.out]; rfl, hB⟩
    · have t1 : decide (h1 < h2) = false := decide_eq_false c1
      by_cases c2 : h1 = h2
      · subst c2
        have t2 : (h1 == h1) = true := beq_self_eq_true _
        by_cases c3 : l1 < l2
        · have t3 : decide (l1 < l2) = true := decide_eq_true c3
          have HC2 := Lib.hid (HC1.out.trans (if_pos (.inr ⟨rfl, c3⟩)))
          go_enter Try.func67, Try.ntmps67
          go_wp2_with fail
          go_ret
          exact ⟨by rw [HC2.out]; rfl, hB⟩
        · have t3 : decide (l1 < l2) = false := decide_eq_false c3
          have HC2 := Lib.hid (HC1.out.trans (if_neg (by simp only; omega)))
          go_enter Try.func67, Try.ntmps67
          go_wp2_with fail
          go_ret
          exact ⟨by rw [HC2.out]; rfl, hB⟩
      · have t2 : (h1 == h2) = false := beq_eq_false_iff_ne.2 c2
        have HC2 := Lib.hid (HC1.out.trans (if_neg (by simp only; omega)))
        go_enter Try.func67, Try.ntmps67
        go_wp2_with fail
        go_ret
        exact ⟨by rw [HC2.out]; rfl, hB⟩
end Go.Proofs.Ytojnooagifhekaa
