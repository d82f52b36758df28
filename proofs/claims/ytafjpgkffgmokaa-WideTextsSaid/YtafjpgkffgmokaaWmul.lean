/- wide.Times; math/bits.Mul64 off the shelf. -/
import Derived.Test.YtafjpgkffgmokaaWadd
namespace Go.Proofs.Ytafjpgkffgmokaa
open Go.RowKit
set_option linter.unusedVariables false
set_option linter.unusedSimpArgs false
def laysM_ren : Go.Shelf.Ren := ⟨fun | 264 => 40 | n => n, fun | 46 => 53 | 53 => 22 | n => n, fun | n => n⟩
theorem laysM : Go.Proofs.Lays.n264 Try.prog laysM_ren := {
  mixed := by kernel_rfl
  f264 := Try.func40.trans (congrArg some (by kernel_rfl))
  t46 := Try.underlying53
  a46 := Try.isAgg53
  z46 := Try.sizeOf53
  v46 := Try.zeroValue53
  t53 := Try.underlying22
  a53 := Try.isAgg22
  z53 := Try.sizeOf22
  v53 := Try.zeroValue22 }
theorem mul64_any (x y : Int) (w : World) (hx : 0 ≤ x ∧ x < 18446744073709551616) (hy : 0 ≤ y ∧ y < 18446744073709551616) :
    Calls Try.prog 40 #[.int .u64 x, .int .u64 y] w fun e w' => ∃ hi lo : Int, e = .returned (.tuple #[.int .u64 hi, .int .u64 lo]) ∧ (0 ≤ hi ∧ hi < 18446744073709551616) ∧ (0 ≤ lo ∧ lo < 18446744073709551616) ∧ Hid (x * y = hi * 18446744073709551616 + lo) ∧ w = w' := by
  obtain ⟨X, rfl⟩ := Int.eq_ofNat_of_zero_le hx.1
  obtain ⟨Y, rfl⟩ := Int.eq_ofNat_of_zero_le hy.1
  refine (Any.bits_Mul64 laysM X Y (by omega) (by omega) w).mono ?_
  rintro e w' ⟨rfl, rfl⟩
  have hm : X * Y ≤ 18446744073709551615 * 18446744073709551615 := Nat.mul_le_mul (by omega) (by omega)
  refine ⟨_, _, rfl, by omega, by omega, ?_, rfl⟩
  show _ = _
  rw [← Int.natCast_mul]
  generalize X * Y = z at *
  omega
theorem times_any (a : Wd) (n : Int) (w : World) (ha : a.ok) (hn : 0 ≤ n ∧ n ≤ 4294967295) : Calls Try.prog 21 #[a.val, .int .u32 n] w fun e w' => e = .returned (wd (a.v * n)).val ∧ Below w.heap.size w w' := by
  obtain ⟨h1, l1⟩ := a
  obtain ⟨⟨ha1, ha2⟩, ha3, ha4⟩ := ha
  unfold Wd.val
  simp only at ha1 ha2 ha3 ha4 ⊢
  have hwn : IntKind.u64.wrap n = n := by rw [wrap_u64]; omega
  go_enter Try.func21, Try.ntmps21
  go_wp2_with fail
  refine (mul64_any _ _ _ (by omega) (by omega)).mono ?_
  rintro e w1 ⟨hi, lo, rfl, hhi, hlo, F, rfl⟩
  obtain ⟨m, hm⟩ : ∃ m, Hid (m = IntKind.u64.wrap (IntKind.u64.wrap (IntKind.u64.wrap h1 * n) + hi)) := ⟨_, rfl⟩
  have HF : Hid (wd ((⟨h1, l1⟩ : Wd).v * n) = ⟨wrap64 m, lo⟩) := by
    have f := F.out
    have e : (⟨h1, l1⟩ : Wd).v * n = h1 * n * 18446744073709551616 + l1 * n := by unfold Wd.v; simp only; rw [Int.add_mul, Int.mul_right_comm]
    show _ = _
    rw [e, f, ← i64_of_wrap64, i64_wrap, hm.out, wrap_u64, wrap_u64, wrap_u64]
    have e2 : h1 % 18446744073709551616 * n % 18446744073709551616 = h1 * n % 18446744073709551616 := by rw [Int.mul_emod, Int.emod_emod_of_dvd _ (Int.dvd_refl _), ← Int.mul_emod]
    rw [e2]
    generalize h1 * n = z
    unfold wd sg64
    simp only [Wd.mk.injEq]
    constructor <;> omega
  go_wp2
  rw [HF.out, ← hm.out]
  exact bodyPost_ret (v := .agg #[.int .i64 (wrap64 m), .int .u64 lo]) (by simp [results, Try.results21, go_sem]) rfl ⟨rfl, below_al (below_al (Below.refl _ _))⟩
end Go.Proofs.Ytafjpgkffgmokaa
