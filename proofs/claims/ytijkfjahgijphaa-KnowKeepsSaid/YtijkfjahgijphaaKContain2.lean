/- Which filter is seen in which (layer 5): the document's answer. -/
import Derived.Test.YtijkfjahgijphaaKContain
set_option linter.unusedVariables false
set_option linter.unusedSimpArgs false
set_option maxRecDepth 100000
set_option maxHeartbeats 4000000
namespace Go.Proofs.Ytijkfjahgijphaa
open Go E Pred
structure AS where
  a : Bool
  s : Bool
end Go.Proofs.Ytijkfjahgijphaa
