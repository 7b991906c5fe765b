/- Layers 6 to 8, the document's, more of them. Written by decomp.py. -/
import Derived.Test.YtijkfjahgijphaaAG1
import Derived.Test.YtijkfjahgijphaaAGrow
import Derived.Test.YtijkfjahgijphaaALoops
set_option linter.unusedVariables false
set_option linter.unusedSimpArgs false
set_option maxRecDepth 100000
set_option maxHeartbeats 0
namespace Go.Proofs.Ytijkfjahgijphaa
open Go E
noncomputable section
open Pred
end
end Go.Proofs.Ytijkfjahgijphaa
