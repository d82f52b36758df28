/- Chapter 02's examples hold: the contract of 'awake'. -/
import Derived.Test.YtafjpgkffgmokaaWparse
import Derived.Test.YtafjpgkffgmokaaWcmp
namespace Go.Proofs.Ytafjpgkffgmokaa
open Go.RowKit
set_option linter.unusedVariables false
set_option linter.unusedSimpArgs false
theorem calls_wd {f : FuncId} {args : Array Value} {w : World} {a : Wd} (b : Wd) (h : Calls Try.prog f args w fun e w' => e = .returned a.val ∧ Below w.heap.size w w') (e : a = b) :
    Calls Try.prog f args w fun e w' => e = .returned (.agg #[.int .i64 b.hi, .int .u64 b.lo]) ∧ Below w.heap.size w w' := by subst e; exact h
theorem calls_ps {args : Array Value} {w : World} {r : Wd × Int} (e0 : Int) (h : Calls Try.prog 11 args w fun e w' => e = .returned (.tuple #[r.1.val, .int .i64 r.2]) ∧ Below w.heap.size w w') (e : r = (⟨0, 0⟩, e0)) :
    Calls Try.prog 11 args w fun e w' => e = .returned (.tuple #[.agg #[.int .i64 0, .int .u64 0], .int .i64 e0]) ∧ Below w.heap.size w w' := by subst e; exact h
theorem calls_tx {args : Array Value} {w : World} {s : ByteArray} (t : ByteArray) (h : Calls Try.prog 13 args w fun e w' => e = .returned (.string s) ∧ Below w.heap.size w w') (e : s = t) :
    Calls Try.prog 13 args w fun e w' => e = .returned (.string t) ∧ Below w.heap.size w w' := by subst e; exact h
set_option maxHeartbeats 2000000 in
set_option maxRecDepth 100000 in
theorem awake_any (w : World) : Calls Try.prog 9 #[] w fun e w' => e = .returned (.bool true) ∧ Below w.heap.size w w' := by
  have A1 := fun wx => calls_wd ⟨0, 9223372036854775807⟩ (of_any 9223372036854775807 wx (by omega) (by omega)) (by decide +kernel)
  have A2 := fun wx => calls_wd ⟨0, 1⟩ (of_any 1 wx (by omega) (by omega)) (by decide +kernel)
  have A3 := fun wx => calls_wd ⟨0, 9223372036854775808⟩ (add_any ⟨0, 9223372036854775807⟩ ⟨0, 1⟩ wx ⟨by decide, by decide⟩ ⟨by decide, by decide⟩) (by decide +kernel)
  have A4 := fun wx => calls_wd ⟨0, 0⟩ (neg_any ⟨0, 0⟩ wx zero_ok) (by decide +kernel)
  have P1 := fun wx => calls_ps 10 (wparse_any ⟨#[45, 48]⟩ wx (by decide)) (by decide +kernel)
  have P2 := fun wx => calls_ps 10 (wparse_any ⟨#[48, 49]⟩ wx (by decide)) (by decide +kernel)
  have P3 := fun wx => calls_ps 11 (wparse_any ⟨#[49, 55, 48, 49, 52, 49, 49, 56, 51, 52, 54, 48, 52, 54, 57, 50, 51, 49, 55, 51, 49, 54, 56, 55, 51, 48, 51, 55, 49, 53, 56, 56, 52, 49, 48, 53, 55, 50, 56]⟩ wx (by decide)) (by decide +kernel)
  have T1 := fun wx => calls_tx ⟨#[48]⟩ (wtext_any ⟨0, 0⟩ wx zero_ok) (by decide +kernel)
  have T2 := fun wx => calls_tx ⟨#[45, 49, 55, 48, 49, 52, 49, 49, 56, 51, 52, 54, 48, 52, 54, 57, 50, 51, 49, 55, 51, 49, 54, 56, 55, 51, 48, 51, 55, 49, 53, 56, 56, 52, 49, 48, 53, 55, 50, 56]⟩ (wtext_any ⟨-9223372036854775808, 0⟩ wx ⟨by decide, by decide⟩) (by decide +kernel)
  unfold Wd.val at A3 A4 T1 T2
  go_enter Try.func9, Try.ntmps9
  go_wp2_with fail
  refine (A1 _).mono ?_
  rintro e w1 ⟨rfl, d1⟩
  go_wp2_with fail
  refine (A2 _).mono ?_
  rintro e w2 ⟨rfl, d2'⟩
  have d2 := below_th d1 d2'
  clear d1 d2'
  go_wp2_with fail
  refine (A3 _).mono ?_
  rintro e w3 ⟨rfl, d3'⟩
  have d3 := below_al (o := .cells #[.int .i64 0, .int .u64 9223372036854775808] 24) (below_th d2 d3')
  have HA := Lib.hid (WdAt.new w3 ⟨0, 9223372036854775808⟩)
  clear d2 d3'
  go_upto_region 2 with (fail)
  generalize w3.alloc (.cells #[.int .i64 0, .int .u64 9223372036854775808] 24) = w4 at *
  generalize w3.heap.size = g at *
  go_wp2_with fail
  refine (P1 _).mono ?_
  rintro e w5 ⟨rfl, d5⟩
  have HA := Lib.hid ((HA.out.below d5).alloc (.cells #[.int .i64 0, .int .u64 0] 24))
  have d6 := below_al (o := .cells #[.int .i64 0, .int .u64 0] 24) (below_th d3 d5)
  clear d3 d5
  go_upto_region 3 with (fail)
  generalize w5.alloc (.cells #[.int .i64 0, .int .u64 0] 24) = w6 at *
  go_wp2_with fail
  refine (P2 _).mono ?_
  rintro e w7 ⟨rfl, d7⟩
  have HA := Lib.hid ((HA.out.below d7).alloc (.cells #[.int .i64 0, .int .u64 0] 24))
  have d8 := below_al (o := .cells #[.int .i64 0, .int .u64 0] 24) (below_th d6 d7)
  clear d6 d7
  go_upto_region 4 with (fail)
  generalize w7.alloc (.cells #[.int .i64 0, .int .u64 0] 24) = w8 at *
  go_wp2_with fail
  refine (P3 _).mono ?_
  rintro e w9 ⟨rfl, d9⟩
  have HA := Lib.hid ((HA.out.below d9).alloc (.cells #[.int .i64 0, .int .u64 0] 24))
  have d10 := below_al (o := .cells #[.int .i64 0, .int .u64 0] 24) (below_th d8 d9)
  clear d8 d9
  go_upto_region 5 with (fail)
  generalize w9.alloc (.cells #[.int .i64 0, .int .u64 0] 24) = w10 at *
  have c0 := HA.out.c0
  have c1 := HA.out.c1
  simp only at c0 c1
  go_wp2_with fail
  refine (A4 _).mono ?_
  rintro e w11 ⟨rfl, d11⟩
  have d12 := below_th d10 d11
  clear c0 c1 d10 d11
  go_wp2_with fail
  refine (T1 _).mono ?_
  rintro e w13 ⟨rfl, d13⟩
  have d14 := below_th d12 d13
  clear d12 d13
  go_wp2_with fail
  refine (T2 _).mono ?_
  rintro e w15 ⟨rfl, d15⟩
  have d16 := below_th d14 d15
  clear d14 d15
  go_wp2_with fail
  go_ret
  exact ⟨rfl, d16⟩
end Go.Proofs.Ytafjpgkffgmokaa
