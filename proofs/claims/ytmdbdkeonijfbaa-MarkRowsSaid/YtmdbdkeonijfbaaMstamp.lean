/- Stamps: which may be, which one is less, which is later. -/
import Derived.Test.YtmdbdkeonijfbaaGen
import Derived.Laws.StructEq
namespace Go.Proofs.Ytmdbdkeonijfbaa
open Go.RowKit
set_option linter.unusedVariables false
set_option linter.unusedSimpArgs false
structure St where
  clock : Int
  site : Int
  seq : Int
deriving DecidableEq
def St.val (a : St) : Value := .agg #[.int .i64 a.clock, .int .i64 a.site, .int .i64 a.seq]
def lessV (a b : St) : Bool := if a.clock = b.clock then (if a.site = b.site then decide (a.seq < b.seq) else decide (a.site < b.site)) else decide (a.clock < b.clock)
def laterV (a b : St) : St := if lessV a b = true then b else a
def inV (n : Int) : Bool := decide (1 ≤ n) && decide (n ≤ 1099511627776)
def okV (a : St) : Bool := inV a.clock && inV a.seq && decide (0 ≤ a.site) && decide (a.site < 8)
theorem eq_stamp (a b : St) (w : World) : (binOp .eql 36 a.val b.val).run Try.prog w = .ok (.bool (decide (a = b))) w := by
  have u3 := Try.underlying3
  have a3 := Try.isAgg3
  have z3 := Try.sizeOf3
  have hS : Try.prog.underlying 36 = some (.struct (Try.prog.fieldsOf 36)) := by kernel_rfl
  have hp : Try.prog.stoodInHeld 36 = false := by kernel_rfl
  obtain ⟨c1, s1, q1⟩ := a
  obtain ⟨c2, s2, q2⟩ := b
  simp only [St.val]
  rw [run_eql_struct, show (10000 : Nat) = 9999 + 1 from rfl, run_equalIn_agg w 9999 36 _ _ hS hp]
  simp only [Program.fieldsOf, Try.underlying36]
  go_simp
  by_cases h1 : c1 = c2 <;> by_cases h2 : s1 = s2 <;> by_cases h3 : q1 = q2 <;> simp [h1, h2, h3]
set_option maxHeartbeats 1000000 in
theorem less_any (a b : St) (w : World) : Calls Try.prog 27 #[a.val, b.val] w fun e w' => e = .returned (.bool (lessV a b)) ∧ Below w.heap.size w w' := by
  obtain ⟨V, HV⟩ : ∃ V, Hid (V = lessV a b) := ⟨_, rfl⟩
  rw [← HV.out]
  obtain ⟨c1, s1, q1⟩ := a
  obtain ⟨c2, s2, q2⟩ := b
  unfold lessV at HV
  unfold St.val
  simp only at HV ⊢
  have hB : Below w.heap.size w ((w.alloc (.cells #[.int .i64 c1, .int .i64 s1, .int .i64 q1] 36)).alloc (.cells #[.int .i64 c2, .int .i64 s2, .int .i64 q2] 36)) := ((Below.refl _ _).alloc (Nat.le_refl _) _).alloc (by simp) _
  by_cases hc : c1 = c2
  · have hc2 := hc
    subst hc
    by_cases hs : s1 = s2
    · subst hs
      have t1 : (c1 == c1) = true := beq_self_eq_true _
      have t2 : (s1 == s1) = true := beq_self_eq_true _
      rw [if_pos rfl, if_pos rfl] at HV
      go_enter Try.func27, Try.ntmps27
      by_cases hq : q1 < q2
      · have t3 : decide (q1 < q2) = true := decide_eq_true hq
        have HV2 := Lib.hid (HV.out.trans t3)
        go_wp2_with fail
        go_ret
        exact ⟨by rw [HV2.out]; rfl, hB⟩
      · have t3 : decide (q1 < q2) = false := decide_eq_false hq
        have HV2 := Lib.hid (HV.out.trans t3)
        go_wp2_with fail
        go_ret
        exact ⟨by rw [HV2.out]; rfl, hB⟩
    · have t1 : (c1 == c1) = true := beq_self_eq_true _
      have t2 : (s1 == s2) = false := beq_eq_false_iff_ne.2 hs
      rw [if_pos rfl, if_neg hs] at HV
      go_enter Try.func27, Try.ntmps27
      by_cases hq : s1 < s2
      · have t3 : decide (s1 < s2) = true := decide_eq_true hq
        have HV2 := Lib.hid (HV.out.trans t3)
        go_wp2_with fail
        go_ret
        exact ⟨by rw [HV2.out]; rfl, hB⟩
      · have t3 : decide (s1 < s2) = false := decide_eq_false hq
        have HV2 := Lib.hid (HV.out.trans t3)
        go_wp2_with fail
        go_ret
        exact ⟨by rw [HV2.out]; rfl, hB⟩
  · have t2 : (c1 == c2) = false := beq_eq_false_iff_ne.2 hc
    rw [if_neg hc] at HV
    go_enter Try.func27, Try.ntmps27
    by_cases hq : c1 < c2
    · have t3 : decide (c1 < c2) = true := decide_eq_true hq
      have HV2 := Lib.hid (HV.out.trans t3)
      go_wp2_with fail
      go_ret
      exact ⟨by rw [HV2.out]; rfl, hB⟩
    · have t3 : decide (c1 < c2) = false := decide_eq_false hq
      have HV2 := Lib.hid (HV.out.trans t3)
      go_wp2_with fail
      go_ret
      exact ⟨by rw [HV2.out]; rfl, hB⟩
set_option maxHeartbeats 1000000 in
theorem later_any (a b : St) (w : World) : Calls Try.prog 28 #[a.val, b.val] w fun e w' => e = .returned (laterV a b).val ∧ Below w.heap.size w w' := by
  obtain ⟨V, HV⟩ : ∃ V, Hid (V = laterV a b) := ⟨_, rfl⟩
  rw [← HV.out]
  have HA : Hid (∀ a : St, a.val = .agg #[.int .i64 a.clock, .int .i64 a.site, .int .i64 a.seq]) := fun _ => rfl
  rw [HA.out a, HA.out b]
  have hL := fun w => less_any a b w
  simp only [St.val] at hL
  unfold laterV at HV
  generalize lessV a b = l at *
  obtain ⟨c1, s1, q1⟩ := a
  obtain ⟨c2, s2, q2⟩ := b
  simp only at hL HV ⊢
  go_enter Try.func28, Try.ntmps28
  go_wp2_with fail
  refine (hL _).mono ?_
  rintro e w1 ⟨rfl, hb1⟩
  have hsz := hb1.size
  have d0 : w1.cell? ⟨w.heap.size, 0, none⟩ = some (.int .i64 c1) := by rw [hb1.cell (by simp; omega)]; go_simp
  have d1 : w1.cell? ⟨w.heap.size, 1, none⟩ = some (.int .i64 s1) := by rw [hb1.cell (by simp; omega)]; go_simp
  have d2 : w1.cell? ⟨w.heap.size, 2, none⟩ = some (.int .i64 q1) := by rw [hb1.cell (by simp; omega)]; go_simp
  have e0 : w1.cell? ⟨w.heap.size + 1, 0, none⟩ = some (.int .i64 c2) := by rw [hb1.cell (by simp)]; go_simp
  have e1 : w1.cell? ⟨w.heap.size + 1, 1, none⟩ = some (.int .i64 s2) := by rw [hb1.cell (by simp)]; go_simp
  have e2 : w1.cell? ⟨w.heap.size + 1, 2, none⟩ = some (.int .i64 q2) := by rw [hb1.cell (by simp)]; go_simp
  have f0 : w1.cell? ⟨w.heap.size + 1 + 1, 0, none⟩ = some (.int .i64 0) := by rw [hb1.cell (by simp)]; go_simp
  have z0 : w1.frozen? ⟨w.heap.size + 1 + 1, 0, none⟩ = false := by rw [hb1.frozen (by simp)]; go_simp
  have f1 : w1.cell? ⟨w.heap.size + 1 + 1, 1, none⟩ = some (.int .i64 0) := by rw [hb1.cell (by simp)]; go_simp
  have z1 : w1.frozen? ⟨w.heap.size + 1 + 1, 1, none⟩ = false := by rw [hb1.frozen (by simp)]; go_simp
  have f2 : w1.cell? ⟨w.heap.size + 1 + 1, 2, none⟩ = some (.int .i64 0) := by rw [hb1.cell (by simp)]; go_simp
  have z2 : w1.frozen? ⟨w.heap.size + 1 + 1, 2, none⟩ = false := by rw [hb1.frozen (by simp)]; go_simp
  have hB0 : Below w.heap.size w w1 := below_then ((((Below.refl w.heap.size w).alloc (Nat.le_refl _) _).alloc (by simp) _).alloc (by simp; omega) _) (by simp; omega) hb1
  have hB1 : ∀ (a b c : Value), Below w.heap.size w (((w1.setCell ⟨w.heap.size + 1 + 1, 0, none⟩ a).setCell ⟨w.heap.size + 1 + 1, 1, none⟩ b).setCell ⟨w.heap.size + 1 + 1, 2, none⟩ c) := fun a b c =>
    ((hB0.setCell (p := ⟨w.heap.size + 1 + 1, 0, none⟩) (by show w.heap.size ≤ w.heap.size + 1 + 1; omega) a).setCell (p := ⟨w.heap.size + 1 + 1, 1, none⟩) (by show w.heap.size ≤ w.heap.size + 1 + 1; omega) b).setCell (p := ⟨w.heap.size + 1 + 1, 2, none⟩) (by show w.heap.size ≤ w.heap.size + 1 + 1; omega) c
  have HB1 := Lib.hid hB1
  clear hB0 hb1 hsz hB1
  cases l
  · have HV2 : Hid (V = ⟨c1, s1, q1⟩) := HV.out
    clear HV
    go_wp2
    refine bodyPost_ret (v := .agg #[.int .i64 c1, .int .i64 s1, .int .i64 q1]) (by simp [results, Try.results28, go_sem, *]) rfl ⟨by rw [HV2.out]; rfl, HB1.out _ _ _⟩
  · have HV2 : Hid (V = ⟨c2, s2, q2⟩) := HV.out
    clear HV
    go_wp2
    refine bodyPost_ret (v := .agg #[.int .i64 c2, .int .i64 s2, .int .i64 q2]) (by simp [results, Try.results28, go_sem, *]) rfl ⟨by rw [HV2.out]; rfl, HB1.out _ _ _⟩
end Go.Proofs.Ytmdbdkeonijfbaa
