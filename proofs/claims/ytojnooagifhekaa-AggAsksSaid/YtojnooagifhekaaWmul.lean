/- wide.Times; math/bits.Mul64 off the shelf. -/
import Derived.Test.YtojnooagifhekaaWadd
namespace Go.Proofs.Ytojnooagifhekaa
open Go.RowKit
set_option maxRecDepth 100000
set_option linter.unusedVariables false
set_option linter.unusedSimpArgs false
def laysM_ren : Go.Shelf.Ren := ⟨fun | 264 => 87 | n => n, fun | 46 => 87 | 53 => 22 | n => n, fun | n => n⟩
theorem laysM : Go.Proofs.Lays.n264 Try.prog laysM_ren := {
  mixed := by kernel_rfl
  f264 := Try.func87.trans (congrArg some (by kernel_rfl))
  t46 := Try.underlying87
  a46 := Try.isAgg87
  z46 := Try.sizeOf87
  v46 := Try.zeroValue87
  t53 := Try.underlying22
  a53 := Try.isAgg22
  z53 := Try.sizeOf22
  v53 := Try.zeroValue22 }
theorem mul64_any (x y : Int) (w : World) (hx : 0 ≤ x ∧ x < 18446744073709551616) (hy : 0 ≤ y ∧ y < 18446744073709551616) :
    Calls Try.prog 87 #[.int .u64 x, .int .u64 y] w fun e w' => ∃ hi lo : Int, e = .returned (.tuple #[.int .u64 hi, .int .u64 lo]) ∧ (0 ≤ hi ∧ hi < 18446744073709551616) ∧ (0 ≤ lo ∧ lo < 18446744073709551616) ∧ Hid (x * y = hi * 18446744073709551616 + lo) ∧ w = w' := by
  obtain ⟨X, rfl⟩ := Int.eq_ofNat_of_zero_le hx.1
  obtain ⟨Y, rfl⟩ := Int.eq_ofNat_of_zero_le hy.1
  refine (Any.bits_Mul64 laysM X Y (by omega) (by omega) w).mono ?_
  rintro e w' ⟨rfl, rfl⟩
  have hm : X * Y ≤ 18446744073709551615 * 18446744073709551615 := Nat.mul_le_mul (by omega) (by omega)
  refine ⟨_, _, rfl, by omega, by omega, ?_, rfl⟩
  show _ = _
  rw [← Int.natCast_mul]
  generalize X * Y = z at *
  omega
end Go.Proofs.Ytojnooagifhekaa
