/- mark.each with the inner function of mark.Join. (Printed by wip/meach.py.) -/
import Derived.Test.YtkonflbgkaflaaaMvec
namespace Go.Proofs.Ytkonflbgkaflaaa
open Go.RowKit
set_option maxRecDepth 100000
set_option linter.unusedVariables false
set_option linter.unusedSimpArgs false
end Go.Proofs.Ytkonflbgkaflaaa
