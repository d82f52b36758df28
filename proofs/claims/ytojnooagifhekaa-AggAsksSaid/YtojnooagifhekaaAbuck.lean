/- agg.Bucket and the reference's. -/
import Derived.Test.YtojnooagifhekaaGen
namespace Go.Proofs.Ytojnooagifhekaa
open Go.RowKit
set_option maxRecDepth 100000
set_option linter.unusedVariables false
set_option linter.unusedSimpArgs false
/-- How many digits, f at most. -/
def bkR : Nat → Int → Nat
  | 0, _ => 0
  | f + 1, v => if v ≤ 0 then 0 else 1 + bkR f (v / 10)
def bucketV (v : Int) : Int := if v < 0 then 0 else 1 + (bkR 7 v : Int)
theorem bkR_zero (f : Nat) (v : Int) (h : v ≤ 0) : bkR f v = 0 := by cases f with
  | zero => rfl
  | succ f => exact if_pos h
theorem bkR_succ (f : Nat) (v : Int) (h : 0 < v) : bkR (f + 1) v = 1 + bkR f (v / 10) := if_neg (by omega)
theorem bkR_le (f : Nat) (v : Int) : bkR f v ≤ f := by
  induction f generalizing v with
  | zero => exact Nat.le_refl _
  | succ f ih =>
    have := ih (v / 10)
    simp only [bkR]
    split <;> omega
theorem bkR_min (f g : Nat) (v : Int) : bkR f v = min f (bkR (f + g) v) := by
  induction f generalizing v with
  | zero => simp [bkR]
  | succ f ih =>
    rw [show f + 1 + g = f + g + 1 by omega]
    simp only [bkR]
    split
    · simp
    · rw [ih (v / 10)]; omega
theorem bucketV_range (v : Int) : 0 ≤ bucketV v ∧ bucketV v ≤ 8 := by
  unfold bucketV
  have := bkR_le 7 v
  split <;> omega
theorem bucket_any (v : Int) (w : World) (h1 : v ≤ 9223372036854775807) : Calls Try.prog 12 #[.int .i64 v] w fun e w' => e = .returned (.int .i64 (bucketV v)) ∧ w = w' := by
  obtain ⟨V, HV⟩ : ∃ V, Hid (V = bucketV v) := ⟨_, rfl⟩
  rw [← HV.out]
  unfold bucketV at HV
  by_cases hn : v < 0
  · have t1 : decide (v < 0) = true := decide_eq_true hn
    rw [if_pos hn] at HV
    go_enter Try.func12, Try.ntmps12
    go_wp2_with fail
    go_ret
    exact ⟨by rw [HV.out]; rfl, rfl⟩
  · have t1 : decide (v < 0) = false := decide_eq_false hn
    rw [if_neg hn] at HV
    go_enter Try.func12, Try.ntmps12
    go_wp2_with fail
    go_loop [0, 3] (fun x i => ∃ (m : Int) (k : Nat), k ≤ 7 ∧ 0 ≤ m ∧ m ≤ v ∧ x = .int .i64 m ∧ i = .int .i64 (1 + k) ∧ k + bkR (7 - k) m = bkR 7 v) (fun _ i => 9 - (intOf i).toNat)
    case atStart => exact ⟨v, 0, by omega, by omega, by omega, rfl, rfl, by simp⟩
    case round =>
      obtain ⟨m, k, hk, hm, hmv, rfl, rfl, hr⟩ := hrel
      have R := Lib.hid hr
      clear hr
      by_cases hz : 0 < m
      · have t2 : decide (0 < m) = true := decide_eq_true hz
        by_cases hk7 : k < 7
        · have t3 : decide (1 + (k : Int) < 8) = true := decide_eq_true (by omega)
          have e1 : m.tdiv 10 = m / 10 := Int.tdiv_eq_ediv_of_nonneg hm
          have N : Hid (k + 1 + bkR (7 - (k + 1)) (m / 10) = bkR 7 v) := by
            have := R.out
            rw [show 7 - k = (7 - (k + 1)) + 1 by omega, bkR_succ _ _ hz] at this
            show _ = _
            omega
          have hq : 0 ≤ m / 10 ∧ m / 10 ≤ v := by omega
          go_wp2_with fail
          go_round
          case rel => exact ⟨m / 10, k + 1, by omega, hq.1, hq.2, by first | rfl | rw [e1], by go_num, N.out⟩
          case measure => simp [intOf]; omega
        · have t3 : decide (1 + (k : Int) < 8) = false := decide_eq_false (by omega)
          have e : V = 1 + (k : Int) := by
            have := R.out
            rw [show 7 - k = 0 by omega, show bkR 0 m = 0 from rfl] at this
            rw [HV.out]
            omega
          have E := Lib.hid e
          clear e
          go_wp2_with fail
          go_ret
          exact ⟨by rw [E.out]; rfl, rfl⟩
      · have t2 : decide (0 < m) = false := decide_eq_false hz
        have e : V = 1 + (k : Int) := by
          have := R.out
          rw [bkR_zero _ _ (by omega)] at this
          rw [HV.out]
          omega
        have E := Lib.hid e
        clear e
        go_wp2_with fail
        go_ret
        exact ⟨by rw [E.out]; rfl, rfl⟩
theorem pow_le19 : (9223372036854775807 : Int) < 10 ^ 19 := by decide
theorem div_pow19 (m : Int) (k : Nat) (hm : 0 ≤ m) (h : m < 10 ^ (k + 1)) : m / 10 < 10 ^ k := by
  rw [Int.pow_succ] at h
  exact Int.ediv_lt_of_lt_mul (by decide) h
theorem rbucket_any (v : Int) (w : World) (h1 : v ≤ 9223372036854775807) : Calls Try.prog 13 #[.int .i64 v] w fun e w' => e = .returned (.int .i64 (bucketV v)) ∧ w = w' := by
  obtain ⟨V, HV⟩ : ∃ V, Hid (V = bucketV v) := ⟨_, rfl⟩
  rw [← HV.out]
  unfold bucketV at HV
  by_cases hn : v < 0
  · have t1 : decide (v < 0) = true := decide_eq_true hn
    rw [if_pos hn] at HV
    go_enter Try.func13, Try.ntmps13
    go_wp2_with fail
    go_ret
    exact ⟨by rw [HV.out]; rfl, rfl⟩
  · have t1 : decide (v < 0) = false := decide_eq_false hn
    rw [if_neg hn, bkR_min 7 12 v] at HV
    have h19 := pow_le19
    go_enter Try.func13, Try.ntmps13
    go_wp2_with fail
    go_loop [0, 3] (fun x i => ∃ (m : Int) (k : Nat), k ≤ 19 ∧ 0 ≤ m ∧ m ≤ v ∧ m < 10 ^ (19 - k) ∧ x = .int .i64 m ∧ i = .int .i64 (1 + k) ∧ k + bkR (19 - k) m = bkR (7 + 12) v) (fun _ i => 21 - (intOf i).toNat)
    case atStart => exact ⟨v, 0, by omega, by omega, by omega, by simp only [Nat.sub_zero]; omega, rfl, rfl, by simp⟩
    case round =>
      obtain ⟨m, k, hk, hm, hmv, hp, rfl, rfl, hr⟩ := hrel
      have R := Lib.hid hr
      have P := Lib.hid hp
      clear hr hp h19
      by_cases hz : 0 < m
      · have t2 : decide (0 < m) = true := decide_eq_true hz
        have hk7 : k < 19 := by
          rcases Nat.lt_or_ge k 19 with h | h
          · exact h
          · have := P.out
            rw [show 19 - k = 0 by omega] at this
            simp at this
            omega
        have e1 : m.tdiv 10 = m / 10 := Int.tdiv_eq_ediv_of_nonneg hm
        have N : Hid (k + 1 + bkR (19 - (k + 1)) (m / 10) = bkR (7 + 12) v) := by
          have := R.out
          rw [show 19 - k = (19 - (k + 1)) + 1 by omega, bkR_succ _ _ hz] at this
          show _ = _
          omega
        have Q : Hid (m / 10 < 10 ^ (19 - (k + 1))) := by
          have := P.out
          rw [show 19 - k = (19 - (k + 1)) + 1 by omega] at this
          exact div_pow19 m _ hm this
        have hq : 0 ≤ m / 10 ∧ m / 10 ≤ v := by omega
        go_wp2_with fail
        go_round
        case rel => exact ⟨m / 10, k + 1, by omega, hq.1, hq.2, Q.out, by first | rfl | rw [e1], by go_num, N.out⟩
        case measure => simp [intOf]; omega
      · have t2 : decide (0 < m) = false := decide_eq_false hz
        have e : bkR (7 + 12) v = k := by
          have := R.out
          rw [bkR_zero _ _ (by omega)] at this
          omega
        rw [e] at HV
        clear e
        by_cases h8 : 7 < k
        · have t3 : decide ((8 : Int) < 1 + (k : Int)) = true := decide_eq_true (by omega)
          have e : V = 8 := by rw [HV.out]; omega
          have E := Lib.hid e
          clear e
          go_wp2_with fail
          go_ret
          exact ⟨by rw [E.out]; rfl, rfl⟩
        · have t3 : decide ((8 : Int) < 1 + (k : Int)) = false := decide_eq_false (by omega)
          have e : V = 1 + (k : Int) := by rw [HV.out]; omega
          have E := Lib.hid e
          clear e
          go_wp2_with fail
          go_ret
          exact ⟨by rw [E.out]; rfl, rfl⟩
end Go.Proofs.Ytojnooagifhekaa
