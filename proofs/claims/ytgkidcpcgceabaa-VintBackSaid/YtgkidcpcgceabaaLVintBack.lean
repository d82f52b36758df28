/- VintBack: for any two numbers and any text ahead the law answers true: a number's bytes are read as it, and no other bytes are. -/
import Derived.Test.YtgkidcpcgceabaaVawake
import Derived.Test.YtgkidcpcgceabaaVback
namespace Go.Proofs.Ytgkidcpcgceabaa
open Go.RowKit
set_option linter.unusedVariables false
set_option linter.unusedSimpArgs false
theorem wrap64_range (n : Int) : -9223372036854775808 ≤ wrap64 n ∧ wrap64 n ≤ 9223372036854775807 := by unfold wrap64; omega
set_option maxHeartbeats 1000000 in
theorem back_any (a b : Int) (s : ByteArray) (w : World) (ha0 : 0 ≤ a) (ha1 : a ≤ 18446744073709551615) (hb0 : 0 ≤ b) (hb1 : b ≤ 18446744073709551615) (hs : s.size ≤ 9223372036854775807) :
    Calls Try.prog 4 #[.int .u64 a, .int .u64 b, .string s] w fun e w' => e = .returned (.bool true) ∧ Below w.heap.size w w' := by
  go_enter Try.func4, Try.ntmps4
  go_wp2_with fail
  refine (awake_any _).mono ?_
  rintro e w1 ⟨rfl, hb1'⟩
  go_wp2_with fail
  refine (short_any s 50 _ hs (by omega)).mono ?_
  rintro e w2 ⟨rfl, rfl⟩
  generalize hp : s.extract 0 50 = p
  have hpz : p.size ≤ 50 := by rw [← hp, ByteArray.size_extract]; omega
  clear hp
  go_wp2_with fail
  refine (put_any a _ ha0 (by omega)).mono ?_
  rintro e w2 ⟨rfl, hb2⟩
  go_wp2_with fail
  refine (put_any b _ hb0 (by omega)).mono ?_
  rintro e w3 ⟨rfl, hb3⟩
  have HA := Lib.hid (vget_put p (vput b) a ha0 (by omega))
  have HB := Lib.hid (show vget (p ++ vput a ++ vput b) ((p.size : Int) + ((vput a).size : Int)) = (b, (p.size : Int) + ((vput a).size : Int) + ((vput b).size : Int), 0) by
    have h := vget_put (p ++ vput a) ByteArray.empty b hb0 (by omega)
    rw [append_empty_r, ByteArray.size_append] at h
    simpa using h)
  have HE := Lib.hid (vput_eq_iff ha0 (show a < 18446744073709551616 by omega) hb0 (show b < 18446744073709551616 by omega))
  have hA1 := vput_le a
  have hB1 := vput_le b
  have hM : ¬ b < a → (vput a).size ≤ (vput b).size := fun h => vput_mono (by omega)
  generalize vput a = S at *
  generalize vput b = T at *
  have hst : ∀ x : Nat, x ≤ 70 → ¬ 9223372036854775807 < x := fun x hx => by omega
  have hz1 : p.size + S.size ≤ 60 := by omega
  have hz2 : p.size + S.size + T.size ≤ 70 := by omega
  go_wp2_with fail
  refine (get_any _ _ _ (by simp only [ByteArray.size_append]; omega)).mono ?_
  rintro e w4 ⟨rfl, rfl⟩
  rw [HA.out]
  unfold get3
  go_wp2_with fail
  refine (get_any _ _ _ (by simp only [ByteArray.size_append]; omega)).mono ?_
  rintro e w4 ⟨rfl, rfl⟩
  rw [HB.out]
  unfold get3
  have t1 : decide (S.size ≤ 10) = true := decide_eq_true hA1
  have z1 := wrap64_range a
  have z2 := zig_zag a ha0
  have z3 := zag_range a ha0 (by omega)
  have z4 := zag_zig (wrap64 a)
  have Z := Lib.hid (And.intro z2 z4)
  clear z2 z4 hst
  have t4 := HE.out
  by_cases hlt : b < a
  · have t2 : decide (b < a) = true := decide_eq_true hlt
    clear hM
    go_wp2_with fail
    refine (zig_any _ _ (wrap64_range a).1 (wrap64_range a).2).mono ?_
    rintro e w5 ⟨rfl, rfl⟩
    go_wp2_with fail
    refine (zag_any _ _ (zig_range _ (wrap64_range a).1 (wrap64_range a).2).1 (zig_range _ (wrap64_range a).1 (wrap64_range a).2).2).mono ?_
    rintro e w5 ⟨rfl, rfl⟩
    rw [Z.out.2]
    go_wp2_with fail
    refine (zag_any _ _ ha0 (by omega)).mono ?_
    rintro e w5 ⟨rfl, rfl⟩
    go_wp2_with fail
    refine (zig_any _ _ z3.1 z3.2).mono ?_
    rintro e w5 ⟨rfl, rfl⟩
    rw [Z.out.1]
    go_wp2
    go_ret
    exact ⟨rfl, below_then (below_then hb1' hb1'.size hb2) (Nat.le_trans hb1'.size hb2.size) hb3⟩
  · have t2 : decide (b < a) = false := decide_eq_false hlt
    have t5 : decide (S.size ≤ T.size) = true := decide_eq_true (hM (by omega))
    clear hM
    go_wp2_with fail
    refine (zig_any _ _ (wrap64_range a).1 (wrap64_range a).2).mono ?_
    rintro e w5 ⟨rfl, rfl⟩
    go_wp2_with fail
    refine (zag_any _ _ (zig_range _ (wrap64_range a).1 (wrap64_range a).2).1 (zig_range _ (wrap64_range a).1 (wrap64_range a).2).2).mono ?_
    rintro e w5 ⟨rfl, rfl⟩
    rw [Z.out.2]
    go_wp2_with fail
    refine (zag_any _ _ ha0 (by omega)).mono ?_
    rintro e w5 ⟨rfl, rfl⟩
    go_wp2_with fail
    refine (zig_any _ _ z3.1 z3.2).mono ?_
    rintro e w5 ⟨rfl, rfl⟩
    rw [Z.out.1]
    go_wp2
    go_ret
    exact ⟨rfl, below_then (below_then hb1' hb1'.size hb2) (Nat.le_trans hb1'.size hb2.size) hb3⟩
end Go.Proofs.Ytgkidcpcgceabaa
