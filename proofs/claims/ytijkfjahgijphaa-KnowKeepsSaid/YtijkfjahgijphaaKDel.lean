/- slices.Delete of one item: its contract. -/
import Derived.Test.YtijkfjahgijphaaKIns2
set_option linter.unusedVariables false
set_option linter.unusedSimpArgs false
namespace Go.Proofs.Ytijkfjahgijphaa.E
open Go Go.Lib Go.RowKit
end Go.Proofs.Ytijkfjahgijphaa.E
