/- VintGets: for any bytes and any place the law answers true: Get reads them as the reference does. -/
import Derived.Test.YtgkidcpcgceabaaVawake
namespace Go.Proofs.Ytgkidcpcgceabaa
open Go.RowKit
set_option linter.unusedVariables false
set_option linter.unusedSimpArgs false
set_option maxHeartbeats 1000000 in
theorem gets_any (s : ByteArray) (at' : Int) (w : World) (hs : s.size ≤ 9223372036854775807) (h0 : -9223372036854775808 ≤ at') (h1 : at' ≤ 9223372036854775807) :
    Calls Try.prog 3 #[.string s, .int .i64 at'] w fun e w' => e = .returned (.bool true) ∧ Below w.heap.size w w' := by
  have hz : (s.extract 0 100).size ≤ 9223372036854775807 := by rw [ByteArray.size_extract]; omega
  go_enter Try.func3, Try.ntmps3
  go_wp2_with fail
  refine (awake_any _).mono ?_
  rintro e w1 ⟨rfl, hb1⟩
  go_wp2_with fail
  refine (short_any s 100 _ hs (by omega)).mono ?_
  rintro e w2 ⟨rfl, rfl⟩
  go_wp2_with fail
  refine (get_any _ at' _ hz).mono ?_
  rintro e w2 ⟨rfl, rfl⟩
  unfold get3
  go_wp2_with fail
  refine (rget_any _ at' _ hz h1).mono ?_
  rintro e w2 ⟨rfl, hb2⟩
  unfold get3
  go_wp2
  go_ret
  exact ⟨rfl, below_then hb1 hb1.size hb2⟩
end Go.Proofs.Ytgkidcpcgceabaa
