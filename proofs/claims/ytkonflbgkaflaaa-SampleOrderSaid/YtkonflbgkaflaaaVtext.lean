/- Texts as bytes; the reference's All. -/
import Derived.Test.YtkonflbgkaflaaaVall
import Derived.Test.YtkonflbgkaflaaaVput
namespace Go.Proofs.Ytkonflbgkaflaaa
open Go.RowKit
set_option maxRecDepth 100000
set_option linter.unusedVariables false
set_option linter.unusedSimpArgs false
def vtext (s : ByteArray) : ByteArray := vput (s.size : Int) ++ s
set_option maxHeartbeats 400000 in
theorem text_any (s : ByteArray) (w : World) (hs : s.size ≤ 1000000000) :
    Calls Try.prog 36 #[.string s] w fun e w' => e = .returned (.string (vtext s)) ∧ Below w.heap.size w w' := by
  have hz := vput_le (s.size : Int)
  go_enter Try.func36, Try.ntmps36
  go_wp2_with fail
  refine (put_any _ _ (by omega) (by omega)).mono ?_
  rintro e w1 ⟨rfl, hb1⟩
  go_wp2
  go_ret
  exact ⟨rfl, hb1⟩
set_option maxHeartbeats 400000 in
theorem rtext_any (s : ByteArray) (w : World) (hs : s.size ≤ 1000000000) :
    Calls Try.prog 41 #[.string s] w fun e w' => e = .returned (.string (vtext s)) ∧ Below w.heap.size w w' := by
  have hz := vput_le (s.size : Int)
  go_enter Try.func41, Try.ntmps41
  go_wp2_with fail
  refine (rput_any _ _ (by omega) (by omega)).mono ?_
  rintro e w1 ⟨rfl, hb1⟩
  go_wp2
  go_ret
  exact ⟨rfl, hb1⟩
end Go.Proofs.Ytkonflbgkaflaaa
