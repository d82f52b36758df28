/- mark.within, mark.Check: which stamps may be. Numbers with a sign as numbers without: the contracts of Zig, Zag, of the reference's, and of the law's 'short'. -/
import Derived.Test.YtglabahbklpocaaGShipMany10
import Derived.Test.YtglabahbklpocaaGShipMany3
namespace Go.Proofs.Ytglabahbklpocaa
section
open Go.RowKit
set_option maxRecDepth 100000
set_option linter.unusedVariables false
set_option linter.unusedSimpArgs false
theorem within_any (n : Int) (w : World) : Calls Try.prog 107 #[.int .i64 n] w fun e w' => e = .returned (.bool (inV n)) ∧ w = w' := by
  obtain ⟨V, HV⟩ : ∃ V, Hid (V = inV n) := ⟨_, rfl⟩
  rw [← HV.out]
  unfold inV at HV
  by_cases h1 : 1 ≤ n
  · have t1 : decide (1 ≤ n) = true := decide_eq_true h1
    by_cases h2 : n ≤ 1099511627776
    · have t2 : decide (n ≤ 1099511627776) = true := decide_eq_true h2
      rw [t1, t2] at HV
      go_enter Try.func107, Try.ntmps107
      go_wp2_with fail
      go_ret
      exact ⟨by rw [HV.out]; rfl, rfl⟩
    · have t2 : decide (n ≤ 1099511627776) = false := decide_eq_false h2
      rw [t1, t2] at HV
      go_enter Try.func107, Try.ntmps107
      go_wp2_with fail
      go_ret
      exact ⟨by rw [HV.out]; rfl, rfl⟩
  · have t1 : decide (1 ≤ n) = false := decide_eq_false h1
    rw [t1] at HV
    go_enter Try.func107, Try.ntmps107
    go_wp2_with fail
    go_ret
    exact ⟨by rw [HV.out]; rfl, rfl⟩
def chkV (a : St) : Int := if okV a = true then 0 else 1
set_option maxHeartbeats 1000000 in
theorem check_any (a : St) (w : World) : Calls Try.prog 101 #[a.val] w fun e w' => e = .returned (.int .i64 (chkV a)) ∧ Below w.heap.size w w' := by
  obtain ⟨V, HV⟩ : ∃ V, Hid (V = chkV a) := ⟨_, rfl⟩
  rw [← HV.out]
  obtain ⟨c, s, q⟩ := a
  unfold chkV okV at HV
  unfold St.val
  simp only at HV ⊢
  have hB : Below w.heap.size w (w.alloc (.cells #[.int .i64 c, .int .i64 s, .int .i64 q] 58)) := (Below.refl _ _).alloc (Nat.le_refl _) _
  go_enter Try.func101, Try.ntmps101
  go_wp2_with fail
  refine (within_any c _).mono ?_
  rintro e w1 ⟨rfl, rfl⟩
  cases h1 : inV c
  · rw [h1] at HV
    go_wp2_with fail
    go_ret
    exact ⟨by rw [HV.out]; rfl, hB⟩
  · rw [h1] at HV
    go_wp2_with fail
    refine (within_any q _).mono ?_
    rintro e w1 ⟨rfl, rfl⟩
    cases h2 : inV q
    · rw [h2] at HV
      go_wp2_with fail
      go_ret
      exact ⟨by rw [HV.out]; rfl, hB⟩
    · rw [h2] at HV
      by_cases h3 : s < 0
      · have t3 : decide (s < 0) = true := decide_eq_true h3
        rw [show decide (0 ≤ s) = false from decide_eq_false (by omega)] at HV
        go_wp2_with fail
        go_ret
        exact ⟨by rw [HV.out]; rfl, hB⟩
      · have t3 : decide (s < 0) = false := decide_eq_false h3
        rw [show decide (0 ≤ s) = true from decide_eq_true (by omega)] at HV
        by_cases h4 : 8 ≤ s
        · have t4 : decide (8 ≤ s) = true := decide_eq_true h4
          rw [show decide (s < 8) = false from decide_eq_false (by omega)] at HV
          go_wp2_with fail
          go_ret
          exact ⟨by rw [HV.out]; rfl, hB⟩
        · have t4 : decide (8 ≤ s) = false := decide_eq_false h4
          rw [show decide (s < 8) = true from decide_eq_true (by omega)] at HV
          go_wp2_with fail
          go_ret
          exact ⟨by rw [HV.out]; rfl, hB⟩
end
end Go.Proofs.Ytglabahbklpocaa
namespace Go.Proofs.Ytglabahbklpocaa
section
open Go.RowKit
set_option maxRecDepth 100000
set_option linter.unusedVariables false
set_option linter.unusedSimpArgs false
def zig (n : Int) : Int := if 0 ≤ n then 2 * n else -2 * n - 1
def zag (u : Int) : Int := if u % 2 = 0 then u / 2 else -(u / 2) - 1
theorem zig_range (n : Int) (h0 : -9223372036854775808 ≤ n) (h1 : n ≤ 9223372036854775807) : 0 ≤ zig n ∧ zig n < 18446744073709551616 := by unfold zig; split <;> omega
theorem zag_range (u : Int) (h0 : 0 ≤ u) (h1 : u < 18446744073709551616) : -9223372036854775808 ≤ zag u ∧ zag u ≤ 9223372036854775807 := by unfold zag; split <;> omega
theorem zag_zig (n : Int) : zag (zig n) = n := by unfold zig zag; split <;> split <;> omega
theorem zig_zag (u : Int) (h : 0 ≤ u) : zig (zag u) = u := by unfold zig zag; split <;> split <;> omega
theorem xor_u64_zero (x : Int) (h0 : 0 ≤ x) (h1 : x < 18446744073709551616) : bits .xor .u64 x 0 = x := by
  obtain ⟨a, rfl⟩ := Int.eq_ofNat_of_zero_le h0
  have ha : a < 2 ^ 64 := by omega
  show IntKind.u64.wrap (((BitVec.ofInt 64 (a : Int) ^^^ BitVec.ofInt 64 0 : BitVec 64).toNat : Nat) : Int) = _
  rw [show BitVec.ofInt 64 0 = 0#64 from rfl, BitVec.xor_zero, BitVec.ofInt_natCast, BitVec.toNat_ofNat, Nat.mod_eq_of_lt ha]
  exact wraps_u64 _ (by omega) (by omega)
theorem xor_u64_ones (x : Int) (h0 : 0 ≤ x) (h1 : x < 18446744073709551616) : bits .xor .u64 x 18446744073709551615 = 18446744073709551615 - x := by
  obtain ⟨a, rfl⟩ := Int.eq_ofNat_of_zero_le h0
  have ha : a < 2 ^ 64 := by omega
  show IntKind.u64.wrap (((BitVec.ofInt 64 (a : Int) ^^^ BitVec.ofInt 64 18446744073709551615 : BitVec 64).toNat : Nat) : Int) = _
  rw [show BitVec.ofInt 64 18446744073709551615 = BitVec.allOnes 64 from by decide, BitVec.xor_allOnes, BitVec.toNat_not, BitVec.ofInt_natCast, BitVec.toNat_ofNat, Nat.mod_eq_of_lt ha]
  rw [wraps_u64 _ (by omega) (by omega)]
  omega
theorem xor_i64_zero (x : Int) (h0 : 0 ≤ x) (h1 : x < 9223372036854775808) : bits .xor .i64 x 0 = x := by
  obtain ⟨a, rfl⟩ := Int.eq_ofNat_of_zero_le h0
  have ha : a < 2 ^ 64 := by omega
  show IntKind.i64.wrap (((BitVec.ofInt 64 (a : Int) ^^^ BitVec.ofInt 64 0 : BitVec 64).toNat : Nat) : Int) = _
  rw [show BitVec.ofInt 64 0 = 0#64 from rfl, BitVec.xor_zero, BitVec.ofInt_natCast, BitVec.toNat_ofNat, Nat.mod_eq_of_lt ha, IntKind.wrap_i64]
  omega
theorem xor_i64_ones (x : Int) (h0 : 0 ≤ x) (h1 : x < 9223372036854775808) : bits .xor .i64 x (-1) = -x - 1 := by
  obtain ⟨a, rfl⟩ := Int.eq_ofNat_of_zero_le h0
  have ha : a < 2 ^ 64 := by omega
  show IntKind.i64.wrap (((BitVec.ofInt 64 (a : Int) ^^^ BitVec.ofInt 64 (-1) : BitVec 64).toNat : Nat) : Int) = _
  rw [show BitVec.ofInt 64 (-1) = BitVec.allOnes 64 from by decide, BitVec.xor_allOnes, BitVec.toNat_not, BitVec.ofInt_natCast, BitVec.toNat_ofNat, Nat.mod_eq_of_lt ha, IntKind.wrap_i64]
  omega
theorem and_u64_one (x : Int) (h0 : 0 ≤ x) (h1 : x < 18446744073709551616) : bits .and .u64 x 1 = x % 2 := bits_mask .u64 64 (by decide) wraps_u64 1 (by decide) x h0 (by omega)
theorem ret_num {k : IntKind} {a b : Int} (h : a = b) : Ending.returned (.int k a) = .returned (.int k b) := by rw [h]
theorem zig_any (n : Int) (w : World) (h0 : -9223372036854775808 ≤ n) (h1 : n ≤ 9223372036854775807) :
    Calls Try.prog 104 #[.int .i64 n] w fun e w' => e = .returned (.int .u64 (zig n)) ∧ w = w' := by
  go_enter Try.func104, Try.ntmps104
  go_wp2
  go_ret
  refine ⟨ret_num ?_, rfl⟩
  unfold zig
  split
  · rw [show n / 9223372036854775808 = 0 by omega, wrap_u64, wrap_u64, wrap_u64, show (0 : Int) % 18446744073709551616 = 0 from rfl, xor_u64_zero _ (by omega) (by omega)]
    omega
  · rw [show n / 9223372036854775808 = -1 by omega, wrap_u64, wrap_u64, wrap_u64, show (-1 : Int) % 18446744073709551616 = 18446744073709551615 from rfl, xor_u64_ones _ (by omega) (by omega)]
    omega
theorem zag_any (u : Int) (w : World) (h0 : 0 ≤ u) (h1 : u < 18446744073709551616) :
    Calls Try.prog 106 #[.int .u64 u] w fun e w' => e = .returned (.int .i64 (zag u)) ∧ w = w' := by
  go_enter Try.func106, Try.ntmps106
  go_wp2
  go_ret
  refine ⟨ret_num ?_, rfl⟩
  rw [and_u64_one u h0 h1]
  unfold zag
  split
  · rename_i h
    rw [h, show wrap64 (-wrap64 0) = 0 from by unfold wrap64; omega, xor_i64_zero _ (by omega) (by omega)]
  · rename_i h
    rw [show u % 2 = 1 by omega, show wrap64 (-wrap64 1) = -1 from by unfold wrap64; omega, xor_i64_ones _ (by omega) (by omega)]
theorem extract_all (s : ByteArray) (n : Nat) (h : s.size ≤ n) : s.extract 0 n = s := by
  apply ByteArray.ext
  rw [ByteArray.data_extract]
  have : s.data.size ≤ n := h
  exact Array.extract_eq_self_of_le this
end
end Go.Proofs.Ytglabahbklpocaa
