/- slices.Insert at items, told of slices as lists: its contract. -/
import Derived.Test.YtijkfjahgijphaaAIns
set_option linter.unusedVariables false
set_option linter.unusedSimpArgs false
set_option maxRecDepth 100000
set_option maxHeartbeats 4000000
namespace Go.Proofs.Ytijkfjahgijphaa.E
open Go Go.Lib Go.RowKit
noncomputable section
open Classical
end
end Go.Proofs.Ytijkfjahgijphaa.E
