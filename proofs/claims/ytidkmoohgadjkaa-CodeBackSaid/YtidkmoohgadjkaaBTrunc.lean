/- math.Trunc: its contract, from its extern. -/
import Derived.Test.YtidkmoohgadjkaaBBase
import Derived.Laws.Externs
import Derived.Tactics2
set_option linter.unusedVariables false
set_option linter.unusedSimpArgs false
set_option maxRecDepth 100000
set_option maxHeartbeats 4000000
namespace Go.Proofs.Ytidkmoohgadjkaa
open Go E Go.RowKit
end Go.Proofs.Ytidkmoohgadjkaa
