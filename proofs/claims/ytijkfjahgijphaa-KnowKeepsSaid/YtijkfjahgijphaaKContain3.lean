/- Which filter is seen in which (layer 5): both answers, and what they are. -/
import Derived.Test.YtijkfjahgijphaaKContain2
set_option linter.unusedVariables false
set_option linter.unusedSimpArgs false
set_option maxRecDepth 100000
set_option maxHeartbeats 4000000
namespace Go.Proofs.Ytijkfjahgijphaa
open Go E Pred
end Go.Proofs.Ytijkfjahgijphaa
