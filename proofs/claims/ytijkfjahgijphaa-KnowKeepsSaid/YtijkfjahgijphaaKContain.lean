/- Which filter is seen in which (layer 5): the program's answer, and the document's. -/
import Derived.Test.YtijkfjahgijphaaKEval
set_option linter.unusedVariables false
set_option linter.unusedSimpArgs false
set_option maxRecDepth 100000
set_option maxHeartbeats 4000000
namespace Go.Proofs.Ytijkfjahgijphaa
open Go E Pred
section
variable {X : Task → Prop} (hX : Closed X) {k p q : Pred} {b : Bool} {Q : A → List Blk → Prop}
include hX
end
end Go.Proofs.Ytijkfjahgijphaa
