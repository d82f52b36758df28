/- Contract of the reference Put. -/
import Derived.Test.YtdihbinbkneejaaGOriginNil2
namespace Go.Proofs.Ytdihbinbkneejaa
section
open Go.RowKit
set_option maxRecDepth 100000
set_option linter.unusedVariables false
set_option linter.unusedSimpArgs false
end
end Go.Proofs.Ytdihbinbkneejaa
