/- VintPuts: for any number, any list and any text the law answers true: numbers and texts are put as the reference puts them. -/
import Derived.Test.YtgkidcpcgceabaaVawake
import Derived.Test.YtgkidcpcgceabaaVtext
import Derived.Test.YtgkidcpcgceabaaOpenI
namespace Go.Proofs.Ytgkidcpcgceabaa
open Go.RowKit
set_option linter.unusedVariables false
set_option linter.unusedSimpArgs false
theorem wrap64_range (n : Int) : -9223372036854775808 ≤ wrap64 n ∧ wrap64 n ≤ 9223372036854775807 := by unfold wrap64; omega
def puts_tail_post (w : World) (e : Ending) (w' : World) : Prop := e = .returned (.bool true) ∧ Below w.heap.size w w'
set_option maxHeartbeats 1000000 in
theorem puts_any (n : Int) (v : Value) (xs : List Int) (s : ByteArray) (w : World) (hn0 : 0 ≤ n) (hn1 : n ≤ 18446744073709551615) (hv : IsInts .i64 w v xs) (hs : s.size ≤ 9223372036854775807) :
    Calls Try.prog 6 #[.int .u64 n, v, .string s] w fun e w' => e = .returned (.bool true) ∧ Below w.heap.size w w' := by
  obtain ⟨a, m, c, rfl, hmc, hc, hr, hwf⟩ := hv
  have HR := Lib.hid hr
  have HW := Lib.hid hwf
  clear hr hwf
  by_cases hm : 40 < m
  · have t1 : decide (40 < (m : Int)) = true := decide_eq_true (by omega)
    have t2 : decide (40 < m) = true := decide_eq_true hm
    obtain ⟨ys, HR, HW⟩ : ∃ ys, Hid (ReadsI .i64 w a 40 ys) ∧ Hid (∀ x ∈ ys, -9223372036854775808 ≤ x ∧ x ≤ 9223372036854775807) :=
      ⟨xs.take 40, Lib.hid (HR.out.take 40 (by omega)), Lib.hid fun x hx => bounds_i64 (HW.out x (List.mem_of_mem_take hx))⟩
    go_enter Try.func6, Try.ntmps6
    go_wp2_with fail
    refine (awake_any _).mono ?_
    rintro e w1 ⟨rfl, hb1⟩
    go_wp2_with fail
    refine (short_any s 300 _ hs (by omega)).mono ?_
    rintro e w2 ⟨rfl, rfl⟩
    generalize hp : s.extract 0 300 = p
    have hpz : p.size ≤ 300 := by rw [← hp, ByteArray.size_extract]; omega
    clear hp
    go_wp2_with fail
    refine (put_any n _ hn0 (by omega)).mono ?_
    rintro e w2 ⟨rfl, hb2⟩
    go_wp2_with fail
    refine (rput_any n _ hn0 (by omega)).mono ?_
    rintro e w3 ⟨rfl, hb3⟩
    go_wp2_with fail
    refine (zig_any _ _ (wrap64_range n).1 (wrap64_range n).2).mono ?_
    rintro e w4 ⟨rfl, rfl⟩
    go_wp2_with fail
    refine (rzig_any _ _ (wrap64_range n).1 (wrap64_range n).2).mono ?_
    rintro e w4 ⟨rfl, rfl⟩
    go_wp2_with fail
    refine (zag_any n _ hn0 (by omega)).mono ?_
    rintro e w4 ⟨rfl, rfl⟩
    go_wp2_with fail
    refine (rzag_any n _ hn0 (by omega)).mono ?_
    rintro e w4 ⟨rfl, rfl⟩
    have hbA := below_then (below_then hb1 hb1.size hb2) (Nat.le_trans hb1.size hb2.size) hb3
    go_wp2_with fail
    refine (all_any a _ c ys _ (HR.out.below hbA) (by omega) HW.out).mono ?_
    rintro e w4 ⟨rfl, hb4⟩
    have hbB := below_then hbA hbA.size hb4
    go_wp2_with fail
    refine (rall_any a _ c ys _ (HR.out.below hbB) (by omega) HW.out).mono ?_
    rintro e w5 ⟨rfl, hb5⟩
    have hbC := below_then hbB hbB.size hb5
    go_wp2_with fail
    refine (text_any p _ (by omega)).mono ?_
    rintro e w6 ⟨rfl, hb6⟩
    have hbD := below_then hbC hbC.size hb6
    go_wp2_with fail
    refine (rtext_any p _ (by omega)).mono ?_
    rintro e w7 ⟨rfl, hb7⟩
    have hbE := below_then hbD hbD.size hb7
    go_wp2
    go_ret
    exact ⟨rfl, hbE⟩
  · have t1 : decide (40 < (m : Int)) = false := decide_eq_false (by omega)
    have t2 : decide (40 < m) = false := decide_eq_false hm
    obtain ⟨ys, HR, HW⟩ : ∃ ys, Hid (ReadsI .i64 w a m ys) ∧ Hid (∀ x ∈ ys, -9223372036854775808 ≤ x ∧ x ≤ 9223372036854775807) :=
      ⟨xs, Lib.hid HR.out, Lib.hid fun x hx => bounds_i64 (HW.out x hx)⟩
    go_enter Try.func6, Try.ntmps6
    go_wp2_with fail
    refine (awake_any _).mono ?_
    rintro e w1 ⟨rfl, hb1⟩
    go_wp2_with fail
    refine (short_any s 300 _ hs (by omega)).mono ?_
    rintro e w2 ⟨rfl, rfl⟩
    generalize hp : s.extract 0 300 = p
    have hpz : p.size ≤ 300 := by rw [← hp, ByteArray.size_extract]; omega
    clear hp
    go_wp2_with fail
    refine (put_any n _ hn0 (by omega)).mono ?_
    rintro e w2 ⟨rfl, hb2⟩
    go_wp2_with fail
    refine (rput_any n _ hn0 (by omega)).mono ?_
    rintro e w3 ⟨rfl, hb3⟩
    go_wp2_with fail
    refine (zig_any _ _ (wrap64_range n).1 (wrap64_range n).2).mono ?_
    rintro e w4 ⟨rfl, rfl⟩
    go_wp2_with fail
    refine (rzig_any _ _ (wrap64_range n).1 (wrap64_range n).2).mono ?_
    rintro e w4 ⟨rfl, rfl⟩
    go_wp2_with fail
    refine (zag_any n _ hn0 (by omega)).mono ?_
    rintro e w4 ⟨rfl, rfl⟩
    go_wp2_with fail
    refine (rzag_any n _ hn0 (by omega)).mono ?_
    rintro e w4 ⟨rfl, rfl⟩
    have hbA := below_then (below_then hb1 hb1.size hb2) (Nat.le_trans hb1.size hb2.size) hb3
    go_wp2_with fail
    refine (all_any a _ c ys _ (HR.out.below hbA) (by omega) HW.out).mono ?_
    rintro e w4 ⟨rfl, hb4⟩
    have hbB := below_then hbA hbA.size hb4
    go_wp2_with fail
    refine (rall_any a _ c ys _ (HR.out.below hbB) (by omega) HW.out).mono ?_
    rintro e w5 ⟨rfl, hb5⟩
    have hbC := below_then hbB hbB.size hb5
    go_wp2_with fail
    refine (text_any p _ (by omega)).mono ?_
    rintro e w6 ⟨rfl, hb6⟩
    have hbD := below_then hbC hbC.size hb6
    go_wp2_with fail
    refine (rtext_any p _ (by omega)).mono ?_
    rintro e w7 ⟨rfl, hb7⟩
    have hbE := below_then hbD hbD.size hb7
    go_wp2
    go_ret
    exact ⟨rfl, hbE⟩
end Go.Proofs.Ytgkidcpcgceabaa
