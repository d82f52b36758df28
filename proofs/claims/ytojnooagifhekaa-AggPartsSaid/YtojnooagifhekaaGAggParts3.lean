/- wide.Of, Add, Sub, Neg, Times. wide.Times; math/bits.Mul64 off the shelf. -/
import Derived.Test.YtojnooagifhekaaGAggParts1
import Derived.Test.YtojnooagifhekaaGAggParts2
import Derived.Laws.Externs
import Derived.Shelf.Bits.Mul64
namespace Go.Proofs.Ytojnooagifhekaa
section
open Go.RowKit
set_option maxRecDepth 100000
set_option linter.unusedVariables false
set_option linter.unusedSimpArgs false
theorem run_add64c (x y c : Int) (hx : 0 ≤ x) (hy : 0 ≤ y) (hc0 : 0 ≤ c) (hc : c ≤ 1) (w : World) :
    (callFunc 71 #[.int .u64 x, .int .u64 y, .int .u64 c]).run Try.prog w =
      .ok (.value (.tuple #[.int .u64 ((x + y + c) % 18446744073709551616), .int .u64 ((x + y + c) / 18446744073709551616)])) w := by
  rw [run_callFunc_extern (e := add64Entry) Try.func71 (by decide) (by decide) (by kernel_rfl) (by kernel_rfl), run_add64 x y c hx hy hc0 hc]
  rfl
def sub64Entry : Array Value → Sem Value := fun args => do
  let (x, y, b) ← Extern.MathBitsCarry.three "Sub64" args
  pure (Extern.MathBitsCarry.pair ((x + Extern.MathBitsCarry.m64 - y - b) % Extern.MathBitsCarry.m64) (if x < y + b then 1 else 0))
theorem run_sub64 {P : Program} (x y c : Int) (hx : 0 ≤ x) (hx1 : x < 18446744073709551616) (hy : 0 ≤ y) (hy1 : y < 18446744073709551616) (hc0 : 0 ≤ c) (hc : c ≤ 1) (w : World) :
    (sub64Entry #[.int .u64 x, .int .u64 y, .int .u64 c]).run P w =
      .ok (.tuple #[.int .u64 ((x - y - c) % 18446744073709551616), .int .u64 (-((x - y - c) / 18446744073709551616))]) w := by
  have key : ∀ k : Nat, k ≤ 1 → (sub64Entry #[.int .u64 x, .int .u64 y, .int .u64 (k : Int)]).run P w =
      .ok (Extern.MathBitsCarry.pair ((x.toNat + Extern.MathBitsCarry.m64 - y.toNat - k) % Extern.MathBitsCarry.m64) (if x.toNat < y.toNat + k then 1 else 0)) w := by
    intro k hk
    have : k = 0 ∨ k = 1 := by omega
    rcases this with rfl | rfl <;> rfl
  obtain ⟨k, rfl⟩ := Int.eq_ofNat_of_zero_le hc0
  rw [key k (by omega)]
  obtain ⟨X, rfl⟩ := Int.eq_ofNat_of_zero_le hx
  obtain ⟨Y, rfl⟩ := Int.eq_ofNat_of_zero_le hy
  simp only [Extern.MathBitsCarry.pair, Extern.MathBitsCarry.m64, Int.toNat_natCast]
  have h1 : Int.ofNat ((X + 2 ^ 64 - Y - k) % 2 ^ 64) = ((X : Int) - Y - k) % 18446744073709551616 := by
    simp only [Int.ofNat_eq_natCast]; omega
  have h2 : Int.ofNat (if X < Y + k then 1 else 0) = -(((X : Int) - Y - k) / 18446744073709551616) := by
    simp only [Int.ofNat_eq_natCast]
    split <;> omega
  rw [h1, h2]
theorem run_sub64c (x y c : Int) (hx : 0 ≤ x) (hx1 : x < 18446744073709551616) (hy : 0 ≤ y) (hy1 : y < 18446744073709551616) (hc0 : 0 ≤ c) (hc : c ≤ 1) (w : World) :
    (callFunc 88 #[.int .u64 x, .int .u64 y, .int .u64 c]).run Try.prog w =
      .ok (.value (.tuple #[.int .u64 ((x - y - c) % 18446744073709551616), .int .u64 (-((x - y - c) / 18446744073709551616))])) w := by
  rw [run_callFunc_extern (e := sub64Entry) Try.func88 (by decide) (by decide) (by kernel_rfl) (by kernel_rfl), run_sub64 x y c hx hx1 hy hy1 hc0 hc]
  rfl

theorem ret_wd {a b : Wd} (h : a = b) : Ending.returned (.agg #[.int .i64 a.hi, .int .u64 a.lo]) = .returned b.val := by rw [h]; rfl
theorem add64_ex (x y c : Int) (hx : 0 ≤ x ∧ x < 18446744073709551616) (hy : 0 ≤ y ∧ y < 18446744073709551616) (hc : 0 ≤ c ∧ c ≤ 1) :
    ∃ lo k : Int, (∀ w, (callFunc 71 #[.int .u64 x, .int .u64 y, .int .u64 c]).run Try.prog w = .ok (.value (.tuple #[.int .u64 lo, .int .u64 k])) w) ∧ (0 ≤ lo ∧ lo < 18446744073709551616) ∧ (0 ≤ k ∧ k ≤ 1) ∧ Hid (x + y + c = k * 18446744073709551616 + lo) :=
  ⟨_, _, fun w => run_add64c x y c hx.1 hy.1 hc.1 hc.2 w, by omega, by omega, by show _ = _; omega⟩
theorem sub64_ex (x y c : Int) (hx : 0 ≤ x ∧ x < 18446744073709551616) (hy : 0 ≤ y ∧ y < 18446744073709551616) (hc : 0 ≤ c ∧ c ≤ 1) :
    ∃ lo k : Int, (∀ w, (callFunc 88 #[.int .u64 x, .int .u64 y, .int .u64 c]).run Try.prog w = .ok (.value (.tuple #[.int .u64 lo, .int .u64 k])) w) ∧ (0 ≤ lo ∧ lo < 18446744073709551616) ∧ (0 ≤ k ∧ k ≤ 1) ∧ Hid (x - y - c = -k * 18446744073709551616 + lo) :=
  ⟨_, _, fun w => run_sub64c x y c hx.1 hx.2 hy.1 hy.2 hc.1 hc.2 w, by omega, by omega, by show _ = _; omega⟩
theorem u64_ex (h : Int) : ∃ u : Int, Hid (IntKind.u64.wrap h = u) ∧ (0 ≤ u ∧ u < 18446744073709551616) ∧ Hid (∃ j : Int, u = h + j * 18446744073709551616) :=
  ⟨_, rfl, by rw [wrap_u64]; omega, ⟨-(h / 18446744073709551616), by rw [wrap_u64]; omega⟩⟩
theorem i64_wrap (h : Int) : IntKind.i64.wrap h = sg64 h := by
  rw [IntKind.wrap_i64]; unfold sg64; omega
theorem i64_of_wrap64 (h : Int) : IntKind.i64.wrap h = wrap64 h := by rw [IntKind.wrap_i64]; unfold wrap64; omega
theorem add_any (a b : Wd) (w : World) (ha : a.ok) (hb : b.ok) : Calls Try.prog 34 #[a.val, b.val] w fun e w' => e = .returned (wd (a.v + b.v)).val ∧ Below w.heap.size w w' := by
  obtain ⟨h1, l1⟩ := a
  obtain ⟨h2, l2⟩ := b
  obtain ⟨⟨ha1, ha2⟩, ha3, ha4⟩ := ha
  obtain ⟨⟨hb1, hb2⟩, hb3, hb4⟩ := hb
  unfold Wd.val
  simp only at ha1 ha2 ha3 ha4 hb1 hb2 hb3 hb4 ⊢
  obtain ⟨u1, E1, hu1, J1⟩ := u64_ex h1
  obtain ⟨u2, E2, hu2, J2⟩ := u64_ex h2
  obtain ⟨lo, c, q1, hlo, hc, F1⟩ := add64_ex l1 l2 0 (by omega) (by omega) (by omega)
  obtain ⟨hi, c2, q2, hhi, hc2, F2⟩ := add64_ex u1 u2 c hu1 hu2 hc
  rw [← E1.out, ← E2.out] at q2
  have HF : Hid (wd ((⟨h1, l1⟩ : Wd).v + (⟨h2, l2⟩ : Wd).v) = ⟨wrap64 hi, lo⟩) := by
    have f1 := F1.out; have f2 := F2.out; obtain ⟨j1, k1⟩ := J1.out; obtain ⟨j2, k2⟩ := J2.out
    show _ = _
    rw [← i64_of_wrap64, i64_wrap]
    unfold wd Wd.v sg64
    simp only [Wd.mk.injEq]
    constructor <;> omega
  clear F1 F2 J1 J2 E1 E2
  go_enter Try.func34, Try.ntmps34
  go_wp2
  refine bodyPost_ret (v := .agg #[.int .i64 (wrap64 hi), .int .u64 lo]) (by simp [results, Try.results34, go_sem]) rfl ⟨by rw [HF.out], below_al (below_al (below_al (Below.refl _ _)))⟩
theorem sub_any (a b : Wd) (w : World) (ha : a.ok) (hb : b.ok) : Calls Try.prog 75 #[a.val, b.val] w fun e w' => e = .returned (wd (a.v - b.v)).val ∧ Below w.heap.size w w' := by
  obtain ⟨h1, l1⟩ := a
  obtain ⟨h2, l2⟩ := b
  obtain ⟨⟨ha1, ha2⟩, ha3, ha4⟩ := ha
  obtain ⟨⟨hb1, hb2⟩, hb3, hb4⟩ := hb
  unfold Wd.val
  simp only at ha1 ha2 ha3 ha4 hb1 hb2 hb3 hb4 ⊢
  obtain ⟨u1, E1, hu1, J1⟩ := u64_ex h1
  obtain ⟨u2, E2, hu2, J2⟩ := u64_ex h2
  obtain ⟨lo, c, q1, hlo, hc, F1⟩ := sub64_ex l1 l2 0 (by omega) (by omega) (by omega)
  obtain ⟨hi, c2, q2, hhi, hc2, F2⟩ := sub64_ex u1 u2 c hu1 hu2 hc
  rw [← E1.out, ← E2.out] at q2
  have HF : Hid (wd ((⟨h1, l1⟩ : Wd).v - (⟨h2, l2⟩ : Wd).v) = ⟨wrap64 hi, lo⟩) := by
    have f1 := F1.out; have f2 := F2.out; obtain ⟨j1, k1⟩ := J1.out; obtain ⟨j2, k2⟩ := J2.out
    show _ = _
    rw [← i64_of_wrap64, i64_wrap]
    unfold wd Wd.v sg64
    simp only [Wd.mk.injEq]
    constructor <;> omega
  clear F1 F2 J1 J2 E1 E2
  go_enter Try.func75, Try.ntmps75
  go_wp2
  refine bodyPost_ret (v := .agg #[.int .i64 (wrap64 hi), .int .u64 lo]) (by simp [results, Try.results75, go_sem]) rfl ⟨by rw [HF.out], below_al (below_al (below_al (Below.refl _ _)))⟩
theorem of_any (n : Int) (w : World) (h0 : -9223372036854775808 ≤ n) (h1 : n ≤ 9223372036854775807) : Calls Try.prog 32 #[.int .i64 n] w fun e w' => e = .returned (wd n).val ∧ Below w.heap.size w w' := by
  have HF : Hid (wd n = ⟨n / 9223372036854775808, IntKind.u64.wrap n⟩) := by
    show _ = _
    rw [wrap_u64]
    unfold wd sg64
    simp only [Wd.mk.injEq]
    constructor
    · omega
    · trivial
  go_enter Try.func32, Try.ntmps32
  go_wp2
  refine bodyPost_ret (v := .agg #[.int .i64 (n / 9223372036854775808), .int .u64 (IntKind.u64.wrap n)]) (by simp [results, Try.results32, go_sem]) rfl ⟨by rw [HF.out]; rfl, ?_⟩
  exact (Below.refl _ _).alloc (Nat.le_refl _) _
theorem zero_ok : (⟨0, 0⟩ : Wd).ok := ⟨by decide, by decide⟩
theorem neg_any (a : Wd) (w : World) (ha : a.ok) : Calls Try.prog 38 #[a.val] w fun e w' => e = .returned (wd (-a.v)).val ∧ Below w.heap.size w w' := by
  have hs := fun w => sub_any ⟨0, 0⟩ a w zero_ok ha
  rw [show (⟨0, 0⟩ : Wd).v - a.v = -a.v by unfold Wd.v; simp] at hs
  obtain ⟨h1, l1⟩ := a
  generalize wd (-(⟨h1, l1⟩ : Wd).v) = R at *
  obtain ⟨r1, r2⟩ := R
  unfold Wd.val at *
  simp only at hs ⊢
  go_enter Try.func38, Try.ntmps38
  go_wp2_with fail
  refine (hs _).mono ?_
  rintro e w1 ⟨rfl, hb⟩
  have hb1 : Below w.heap.size w w1 := below_then (below_al (below_al (Below.refl w.heap.size w))) (by simp <;> omega) hb
  have c0 : w1.cell? ⟨w.heap.size + 1, 0, none⟩ = some (.int .i64 0) := by rw [hb.cell (by simp)]; go_simp
  have c1 : w1.cell? ⟨w.heap.size + 1, 1, none⟩ = some (.int .u64 0) := by rw [hb.cell (by simp)]; go_simp
  have z0 : w1.frozen? ⟨w.heap.size + 1, 0, none⟩ = false := by rw [hb.frozen (by simp)]; go_simp
  have z1 : w1.frozen? ⟨w.heap.size + 1, 1, none⟩ = false := by rw [hb.frozen (by simp)]; go_simp
  clear hb
  go_wp2
  refine bodyPost_ret (v := .agg #[.int .i64 r1, .int .u64 r2]) (by simp [results, Try.results38, go_sem, *]) rfl ⟨rfl, ?_⟩
  exact (hb1.setCell (p := ⟨w.heap.size + 1, 0, none⟩) (by show w.heap.size ≤ w.heap.size + 1; omega) _).setCell (p := ⟨w.heap.size + 1, 1, none⟩) (by show w.heap.size ≤ w.heap.size + 1; omega) _
end
end Go.Proofs.Ytojnooagifhekaa
namespace Go.Proofs.Ytojnooagifhekaa
section
open Go.RowKit
set_option maxRecDepth 100000
set_option linter.unusedVariables false
set_option linter.unusedSimpArgs false
def laysM_ren : Go.Shelf.Ren := ⟨fun | 264 => 87 | n => n, fun | 46 => 87 | 53 => 22 | n => n, fun | n => n⟩
theorem laysM : Go.Proofs.Lays.n264 Try.prog laysM_ren := {
  mixed := by kernel_rfl
  f264 := Try.func87.trans (congrArg some (by kernel_rfl))
  t46 := Try.underlying87
  a46 := Try.isAgg87
  z46 := Try.sizeOf87
  v46 := Try.zeroValue87
  t53 := Try.underlying22
  a53 := Try.isAgg22
  z53 := Try.sizeOf22
  v53 := Try.zeroValue22 }
theorem mul64_any (x y : Int) (w : World) (hx : 0 ≤ x ∧ x < 18446744073709551616) (hy : 0 ≤ y ∧ y < 18446744073709551616) :
    Calls Try.prog 87 #[.int .u64 x, .int .u64 y] w fun e w' => ∃ hi lo : Int, e = .returned (.tuple #[.int .u64 hi, .int .u64 lo]) ∧ (0 ≤ hi ∧ hi < 18446744073709551616) ∧ (0 ≤ lo ∧ lo < 18446744073709551616) ∧ Hid (x * y = hi * 18446744073709551616 + lo) ∧ w = w' := by
  obtain ⟨X, rfl⟩ := Int.eq_ofNat_of_zero_le hx.1
  obtain ⟨Y, rfl⟩ := Int.eq_ofNat_of_zero_le hy.1
  refine (Any.bits_Mul64 laysM X Y (by omega) (by omega) w).mono ?_
  rintro e w' ⟨rfl, rfl⟩
  have hm : X * Y ≤ 18446744073709551615 * 18446744073709551615 := Nat.mul_le_mul (by omega) (by omega)
  refine ⟨_, _, rfl, by omega, by omega, ?_, rfl⟩
  show _ = _
  rw [← Int.natCast_mul]
  generalize X * Y = z at *
  omega
end
end Go.Proofs.Ytojnooagifhekaa
