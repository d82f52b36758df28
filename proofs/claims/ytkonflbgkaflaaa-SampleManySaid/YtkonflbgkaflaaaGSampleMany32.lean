/- Vectors read: mark.Read; the reference's Text, TakeVector, Read. -/
import Derived.Test.YtkonflbgkaflaaaGSampleMany30
import Derived.Test.YtkonflbgkaflaaaGSampleMany31
import Derived.Test.YtkonflbgkaflaaaGSampleMany13
import Derived.Test.YtkonflbgkaflaaaGSampleMany23
import Derived.Test.YtkonflbgkaflaaaGSampleMany19
import Derived.Test.YtkonflbgkaflaaaGSampleMany21
namespace Go.Proofs.Ytkonflbgkaflaaa
section
open Go.RowKit
set_option maxRecDepth 100000
set_option linter.unusedVariables false
set_option linter.unusedSimpArgs false
theorem below_but {B g : Nat} {w0 w w' : World} (h0 : Below B w0 w) (h : But g w w') (hB : B ≤ w.heap.size) (hg : B ≤ g) : Below B w0 w' := But.below h0 h hB hg
theorem small8 {r : Rdr} (hr : r.ok) : 0 ≤ (r.small 8).1 ∧ (r.small 8).1 ≤ 8 := by
  rcases hb : (r.small 8).2.bad with _ | _
  · have := small_good hr hb
    omega
  · have := Rdr.small_bad 8 hb
    omega
end
end Go.Proofs.Ytkonflbgkaflaaa
