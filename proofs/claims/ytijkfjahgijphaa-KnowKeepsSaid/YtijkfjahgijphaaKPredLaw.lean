/- The statements of layer 3, walked. -/
import Derived.Test.YtijkfjahgijphaaKPred2
set_option linter.unusedVariables false
set_option linter.unusedSimpArgs false
set_option maxRecDepth 100000
set_option maxHeartbeats 4000000
namespace Go.Proofs.Ytijkfjahgijphaa
open Go E Pred
abbrev pagg (o : Int) (t : ByteArray) (n : Int) (x y : Nat) (r : List (List PC)) : A := .agg [ic o, .p (.v (.string t)), ic n, .p (.v (.complex .f64 x y)), .p (.sl r)]
section
variable {X : Task → Prop} (hX : Closed X) {o : Int} {t : ByteArray} {n : Int} {x y : Nat} {r : List (List PC)} {Q : A → List Blk → Prop}
include hX
end
end Go.Proofs.Ytijkfjahgijphaa
