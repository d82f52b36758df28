/- Plain law: whole numbers of 128 bits, as two halves. -/
import Derived.Test.YtojnooagifhekaaGen
namespace Go.Proofs.Ytojnooagifhekaa
set_option maxRecDepth 100000
set_option linter.unusedVariables false
set_option linter.unusedSimpArgs false
structure Wd where
  hi : Int
  lo : Int
deriving DecidableEq
def Wd.val (a : Wd) : Value := .agg #[.int .i64 a.hi, .int .u64 a.lo]
def Wd.ok (a : Wd) : Prop := (-9223372036854775808 ≤ a.hi ∧ a.hi ≤ 9223372036854775807) ∧ (0 ≤ a.lo ∧ a.lo ≤ 18446744073709551615)
def Wd.v (a : Wd) : Int := a.hi * 18446744073709551616 + a.lo
def sg64 (x : Int) : Int := (x + 9223372036854775808) % 18446744073709551616 - 9223372036854775808
def wd (n : Int) : Wd := ⟨sg64 (n / 18446744073709551616), n % 18446744073709551616⟩
theorem sg64_range (x : Int) : -9223372036854775808 ≤ sg64 x ∧ sg64 x ≤ 9223372036854775807 := by unfold sg64; omega
theorem wd_ok (n : Int) : (wd n).ok := ⟨sg64_range _, by unfold wd; simp only; omega⟩
theorem wd_v (a : Wd) (h : a.ok) : wd a.v = a := by
  obtain ⟨hi, lo⟩ := a
  obtain ⟨h1, h2⟩ := h
  simp only at h1 h2
  unfold wd Wd.v sg64
  simp only [Wd.mk.injEq]
  constructor <;> omega
theorem v_range (a : Wd) (h : a.ok) : -170141183460469231731687303715884105728 ≤ a.v ∧ a.v ≤ 170141183460469231731687303715884105727 := by
  obtain ⟨h1, h2⟩ := h
  unfold Wd.v
  omega
theorem v_wd (n : Int) (h0 : -170141183460469231731687303715884105728 ≤ n) (h1 : n ≤ 170141183460469231731687303715884105727) : (wd n).v = n := by
  unfold wd Wd.v sg64
  simp only
  omega
theorem wd_mod (n m : Int) (h : n % 340282366920938463463374607431768211456 = m % 340282366920938463463374607431768211456) : wd n = wd m := by
  unfold wd sg64
  simp only [Wd.mk.injEq]
  constructor <;> omega
theorem v_wd_mod (n : Int) : (wd n).v % 340282366920938463463374607431768211456 = n % 340282366920938463463374607431768211456 := by
  unfold wd Wd.v sg64
  simp only
  omega
theorem wd_eq_iff (n m : Int) : wd n = wd m ↔ n % 340282366920938463463374607431768211456 = m % 340282366920938463463374607431768211456 :=
  ⟨fun h => by rw [← v_wd_mod n, h, v_wd_mod], wd_mod n m⟩
theorem v_inj {a b : Wd} (ha : a.ok) (hb : b.ok) (h : a.v = b.v) : a = b := by rw [← wd_v a ha, ← wd_v b hb, h]
def cmpW (a b : Wd) : Int := if a.v = b.v then 0 else if a.v < b.v then -1 else 1
def smallW (a : Wd) : Int × Bool := if -9223372036854775808 ≤ a.v ∧ a.v ≤ 9223372036854775807 then (a.v, true) else (0, false)
end Go.Proofs.Ytojnooagifhekaa
