/- VintNil: whatever the number, the law answers true: of no reader nothing comes; a zero one has nothing. -/
import Derived.Test.YtgkidcpcgceabaaVawake
import Derived.Test.YtgkidcpcgceabaaRRdr
namespace Go.Proofs.Ytgkidcpcgceabaa
open Go.RowKit
set_option linter.unusedVariables false
set_option linter.unusedSimpArgs false
theorem nil_ok (b : Bool) (w : World) : Calls Try.prog 39 #[.pointer none, .bool b] w fun e w' => e = .returned (.bool false) ∧ w = w' := by
  go_enter Try.func39, Try.ntmps39
  go_wp2
  go_ret
  exact ⟨rfl, rfl⟩
theorem nil_num (w : World) : Calls Try.prog 24 #[.pointer none] w fun e w' => e = .returned (.int .u64 0) ∧ w = w' := by
  go_enter Try.func24, Try.ntmps24
  go_wp2_with fail
  refine (nil_ok true _).mono ?_
  rintro e w1 ⟨rfl, rfl⟩
  go_wp2
  go_ret
  exact ⟨rfl, rfl⟩
theorem nil_int (w : World) : Calls Try.prog 25 #[.pointer none] w fun e w' => e = .returned (.int .i64 0) ∧ w = w' := by
  go_enter Try.func25, Try.ntmps25
  go_wp2_with fail
  refine (nil_num _).mono ?_
  rintro e w1 ⟨rfl, rfl⟩
  go_wp2_with fail
  refine (zag_any 0 _ (by decide) (by decide)).mono ?_
  rintro e w1 ⟨rfl, rfl⟩
  go_wp2
  go_ret
  exact ⟨rfl, rfl⟩
theorem nil_small (n : Int) (w : World) (h0 : -9223372036854775808 ≤ n) (h1 : n ≤ 9223372036854775807) : Calls Try.prog 26 #[.pointer none, .int .i64 n] w fun e w' => e = .returned (.int .i64 0) ∧ w = w' := by
  by_cases hn : 0 ≤ n
  · have t1 : decide (0 ≤ n) = true := decide_eq_true hn
    have hw : IntKind.u64.wrap (max n 0) = n := by rw [wrap_u64]; omega
    go_enter Try.func26, Try.ntmps26
    go_wp2_with fail
    refine (nil_num _).mono ?_
    rintro e w1 ⟨rfl, rfl⟩
    go_wp2_with fail
    refine (nil_ok _ _).mono ?_
    rintro e w1 ⟨rfl, rfl⟩
    go_wp2
    go_ret
    exact ⟨rfl, rfl⟩
  · have t1 : decide (0 ≤ n) = false := decide_eq_false hn
    go_enter Try.func26, Try.ntmps26
    go_wp2_with fail
    refine (nil_num _).mono ?_
    rintro e w1 ⟨rfl, rfl⟩
    go_wp2_with fail
    refine (nil_ok _ _).mono ?_
    rintro e w1 ⟨rfl, rfl⟩
    go_wp2
    go_ret
    exact ⟨rfl, rfl⟩
theorem nil_left (w : World) : Calls Try.prog 28 #[.pointer none] w fun e w' => e = .returned (.int .i64 0) ∧ w = w' := by
  go_enter Try.func28, Try.ntmps28
  go_wp2
  go_ret
  exact ⟨rfl, rfl⟩
theorem nil_text (w : World) : Calls Try.prog 27 #[.pointer none] w fun e w' => e = .returned (.string ⟨#[]⟩) ∧ w = w' := by
  go_enter Try.func27, Try.ntmps27
  go_wp2_with fail
  refine (nil_num _).mono ?_
  rintro e w1 ⟨rfl, rfl⟩
  go_wp2_with fail
  refine (nil_left _).mono ?_
  rintro e w1 ⟨rfl, rfl⟩
  go_wp2_with fail
  refine (nil_ok _ _).mono ?_
  rintro e w1 ⟨rfl, rfl⟩
  go_wp2
  go_ret
  exact ⟨rfl, rfl⟩
theorem nil_end (w : World) : Calls Try.prog 29 #[.pointer none] w fun e w' => e = .returned (.int .i64 10) ∧ QuietFrom w w' := by
  go_enter Try.func29, Try.ntmps29
  go_wp2
  go_quiet (fail)
  go_wp2
  go_ret
  exact ⟨rfl, ⟨nq, rfl⟩⟩
def zr : Rdr := ⟨⟨#[]⟩, 0, false⟩
theorem zr_ok : zr.ok := ⟨by decide, by decide, by decide⟩
theorem zr_num : zr.num = (0, ⟨⟨#[]⟩, 0, true⟩) := by
  have h : vget ⟨#[]⟩ 0 = (0, 0, 10) := by decide +kernel
  unfold Rdr.num zr
  simp [h]
set_option maxHeartbeats 2000000 in
theorem nil_any (n : Int) (w : World) (h0 : -9223372036854775808 ≤ n) (h1 : n ≤ 9223372036854775807) :
    Calls Try.prog 7 #[.int .i64 n] w fun e w' => e = .returned (.bool true) ∧ Below w.heap.size w w' := by
  go_enter Try.func7, Try.ntmps7
  go_wp2_with fail
  have hz : RdrAt 42 (w.alloc (.cells #[.string ⟨#[]⟩, .int .i64 0, .bool false] 42)) w.heap.size zr := heap_alloc_new w _
  have hbA : Below w.heap.size w (w.alloc (.cells #[.string ⟨#[]⟩, .int .i64 0, .bool false] 42)) := (Below.refl _ _).alloc (Nat.le_refl _) _
  refine (awake_any _).mono ?_
  rintro e w1 ⟨rfl, hb1⟩
  have k1 := hz.below hb1
  have bl := below_then hbA hbA.size hb1
  clear hz hbA hb1
  go_wp2_with fail
  refine (nil_num _).mono ?_
  rintro e w2 ⟨rfl, rfl⟩
  go_wp2_with fail
  refine (nil_int _).mono ?_
  rintro e w2 ⟨rfl, rfl⟩
  go_wp2_with fail
  refine (nil_small n _ h0 h1).mono ?_
  rintro e w2 ⟨rfl, rfl⟩
  go_wp2_with fail
  refine (nil_text _).mono ?_
  rintro e w2 ⟨rfl, rfl⟩
  go_wp2_with fail
  refine (nil_left _).mono ?_
  rintro e w2 ⟨rfl, rfl⟩
  go_wp2_with fail
  refine (nil_end _).mono ?_
  rintro e w2 ⟨rfl, q2⟩
  have k2 := q2.rdr k1
  have b2 := bl.trans q2.below
  go_wp2_with fail
  refine (rdr_end w.heap.size zr _ k2 zr_ok).mono ?_
  rintro e w3 ⟨rfl, q3⟩
  rw [show zr.fin = 0 from by decide]
  have k3 := q3.rdr k2
  have b3 := b2.trans q3.below
  go_wp2_with fail
  refine (rdr_num w.heap.size zr _ k3 zr_ok).mono ?_
  rintro e w4 ⟨rfl, k4, bt4⟩
  rw [zr_num] at k4 ⊢
  have b4 := But.below b3 bt4 b3.size (Nat.le_refl _)
  go_wp2_with fail
  refine (rdr_end w.heap.size ⟨⟨#[]⟩, 0, true⟩ _ k4 ⟨by decide, by decide, by decide⟩).mono ?_
  rintro e w5 ⟨rfl, q5⟩
  rw [show (⟨⟨#[]⟩, 0, true⟩ : Rdr).fin = 10 from by decide]
  go_wp2
  go_ret
  exact ⟨rfl, b4.trans q5.below⟩
end Go.Proofs.Ytgkidcpcgceabaa
