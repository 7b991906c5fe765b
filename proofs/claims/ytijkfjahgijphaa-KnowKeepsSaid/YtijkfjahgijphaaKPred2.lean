/- Filters (layer 3): which ones may be. -/
import Derived.Test.YtijkfjahgijphaaKPred
set_option linter.unusedVariables false
set_option linter.unusedSimpArgs false
set_option maxRecDepth 100000
set_option maxHeartbeats 4000000
namespace Go.Proofs.Ytijkfjahgijphaa
open Go E Pred
abbrev prow (o : Int) (t : ByteArray) (n : Int) (x y : Nat) (ks : List Pred) : A := .agg [ic o, .p (.v (.string t)), ic n, .p (.v (.complex .f64 x y)), .p (.sl (rows ks))]
end Go.Proofs.Ytijkfjahgijphaa
