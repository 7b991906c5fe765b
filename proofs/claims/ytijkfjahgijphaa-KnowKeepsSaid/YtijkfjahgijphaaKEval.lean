/- Which items a filter has (layer 4): the program's answer, and the document's. -/
import Derived.Test.YtijkfjahgijphaaKPredLaw
import Derived.Test.YtijkfjahgijphaaKKit
set_option linter.unusedVariables false
set_option linter.unusedSimpArgs false
set_option maxRecDepth 100000
set_option maxHeartbeats 4000000
namespace Go.Proofs.Ytijkfjahgijphaa
open Go E Pred
section
variable {X : Task → Prop} (hX : Closed X) {g : Nat} {cells : List PC} {ks : List Pred} {P : Pred → Bool} {Q : A → List Blk → Prop}
include hX
end
section
variable {X : Task → Prop} (hX : Closed X) {k : Pred} {x : Item} {b : Bool} {Q : A → List Blk → Prop}
include hX
end
end Go.Proofs.Ytijkfjahgijphaa
