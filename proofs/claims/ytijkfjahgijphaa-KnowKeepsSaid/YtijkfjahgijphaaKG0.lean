/- The document's filters made plain. Written by decomp.py. -/
import Derived.Test.YtijkfjahgijphaaKCon
import Derived.Test.YtijkfjahgijphaaKLoops
set_option linter.unusedVariables false
set_option linter.unusedSimpArgs false
set_option maxRecDepth 100000
set_option maxHeartbeats 0
namespace Go.Proofs.Ytijkfjahgijphaa
open Go E
noncomputable section
end
end Go.Proofs.Ytijkfjahgijphaa
