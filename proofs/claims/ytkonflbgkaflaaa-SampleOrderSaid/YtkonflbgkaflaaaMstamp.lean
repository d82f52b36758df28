/- Stamps: which may be, which one is less, which is later. -/
import Derived.Test.YtkonflbgkaflaaaGen
import Derived.Laws.StructEq
namespace Go.Proofs.Ytkonflbgkaflaaa
open Go.RowKit
set_option maxRecDepth 100000
set_option linter.unusedVariables false
set_option linter.unusedSimpArgs false
structure St where
  clock : Int
  site : Int
  seq : Int
deriving DecidableEq
def St.val (a : St) : Value := .agg #[.int .i64 a.clock, .int .i64 a.site, .int .i64 a.seq]
def lessV (a b : St) : Bool := if a.clock = b.clock then (if a.site = b.site then decide (a.seq < b.seq) else decide (a.site < b.site)) else decide (a.clock < b.clock)
def laterV (a b : St) : St := if lessV a b = true then b else a
def inV (n : Int) : Bool := decide (1 ≤ n) && decide (n ≤ 1099511627776)
def okV (a : St) : Bool := inV a.clock && inV a.seq && decide (0 ≤ a.site) && decide (a.site < 8)
theorem eq_stamp (a b : St) (w : World) : (binOp .eql 23 a.val b.val).run Try.prog w = .ok (.bool (decide (a = b))) w := by
  have u3 := Try.underlying3
  have a3 := Try.isAgg3
  have z3 := Try.sizeOf3
  have hS : Try.prog.underlying 23 = some (.struct (Try.prog.fieldsOf 23)) := by kernel_rfl
  have hp : Try.prog.stoodInHeld 23 = false := by kernel_rfl
  obtain ⟨c1, s1, q1⟩ := a
  obtain ⟨c2, s2, q2⟩ := b
  simp only [St.val]
  rw [run_eql_struct, show (10000 : Nat) = 9999 + 1 from rfl, run_equalIn_agg w 9999 23 _ _ hS hp]
  simp only [Program.fieldsOf, Try.underlying23]
  go_simp
  by_cases h1 : c1 = c2 <;> by_cases h2 : s1 = s2 <;> by_cases h3 : q1 = q2 <;> simp [h1, h2, h3]
set_option maxHeartbeats 1000000 in
theorem less_any (a b : St) (w : World) : Calls Try.prog 53 #[a.val, b.val] w fun e w' => e = .returned (.bool (lessV a b)) ∧ Below w.heap.size w w' := by
  obtain ⟨V, HV⟩ : ∃ V, Hid (V = lessV a b) := ⟨_, rfl⟩
  rw [← HV.out]
  obtain ⟨c1, s1, q1⟩ := a
  obtain ⟨c2, s2, q2⟩ := b
  unfold lessV at HV
  unfold St.val
  simp only at HV ⊢
  have hB : Below w.heap.size w ((w.alloc (.cells #[.int .i64 c1, .int .i64 s1, .int .i64 q1] 23)).alloc (.cells #[.int .i64 c2, .int .i64 s2, .int .i64 q2] 23)) := ((Below.refl _ _).alloc (Nat.le_refl _) _).alloc (by simp) _
  by_cases hc : c1 = c2
  · have hc2 := hc
    subst hc
    by_cases hs : s1 = s2
    · subst hs
      have t1 : (c1 == c1) = true := beq_self_eq_true _
      have t2 : (s1 == s1) = true := beq_self_eq_true _
      rw [if_pos rfl, if_pos rfl] at HV
      go_enter Try.func53, Try.ntmps53
      by_cases hq : q1 < q2
      · have t3 : decide (q1 < q2) = true := decide_eq_true hq
        have HV2 := Lib.hid (HV.out.trans t3)
        go_wp2_with fail
        go_ret
        exact ⟨by rw [HV2.out]; rfl, hB⟩
      · have t3 : decide (q1 < q2) = false := decide_eq_false hq
        have HV2 := Lib.hid (HV.out.trans t3)
        go_wp2_with fail
        go_ret
        exact ⟨by rw [HV2.out]; rfl, hB⟩
    · have t1 : (c1 == c1) = true := beq_self_eq_true _
      have t2 : (s1 == s2) = false := beq_eq_false_iff_ne.2 hs
      rw [if_pos rfl, if_neg hs] at HV
      go_enter Try.func53, Try.ntmps53
      by_cases hq : s1 < s2
      · have t3 : decide (s1 < s2) = true := decide_eq_true hq
        have HV2 := Lib.hid (HV.out.trans t3)
        go_wp2_with fail
        go_ret
        exact ⟨by rw [HV2.out]; rfl, hB⟩
      · have t3 : decide (s1 < s2) = false := decide_eq_false hq
        have HV2 := Lib.hid (HV.out.trans t3)
        go_wp2_with fail
        go_ret
        exact ⟨by rw [HV2.out]; rfl, hB⟩
  · have t2 : (c1 == c2) = false := beq_eq_false_iff_ne.2 hc
    rw [if_neg hc] at HV
    go_enter Try.func53, Try.ntmps53
    by_cases hq : c1 < c2
    · have t3 : decide (c1 < c2) = true := decide_eq_true hq
      have HV2 := Lib.hid (HV.out.trans t3)
      go_wp2_with fail
      go_ret
      exact ⟨by rw [HV2.out]; rfl, hB⟩
    · have t3 : decide (c1 < c2) = false := decide_eq_false hq
      have HV2 := Lib.hid (HV.out.trans t3)
      go_wp2_with fail
      go_ret
      exact ⟨by rw [HV2.out]; rfl, hB⟩
end Go.Proofs.Ytkonflbgkaflaaa
