/- The statements of layer 5, walked. -/
import Derived.Test.YtijkfjahgijphaaAContain3
set_option linter.unusedVariables false
set_option linter.unusedSimpArgs false
set_option maxRecDepth 100000
set_option maxHeartbeats 4000000
namespace Go.Proofs.Ytijkfjahgijphaa
open Go E Pred
section
variable {X : Task → Prop} (hX : Closed X) {Q : A → List Blk → Prop}
include hX
end
end Go.Proofs.Ytijkfjahgijphaa
