/- Filters made plain (layer 4): the program's answer. -/
import Derived.Test.YtijkfjahgijphaaKPlainSpec
import Derived.Test.YtijkfjahgijphaaKKit
set_option linter.unusedVariables false
set_option linter.unusedSimpArgs false
set_option maxRecDepth 100000
set_option maxHeartbeats 4000000
namespace Go.Proofs.Ytijkfjahgijphaa
open Go E Pred
section
variable {X : Task → Prop} (hX : Closed X) {k : Pred} {none : Int} {acc : List Pred} {kk : Nat} {Q : A → List Blk → Prop}
include hX
end
end Go.Proofs.Ytijkfjahgijphaa
