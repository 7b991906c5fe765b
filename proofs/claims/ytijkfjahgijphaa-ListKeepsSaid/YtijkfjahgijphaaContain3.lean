/- Which filter is seen in which (layer 5): both answers, and what they are. -/
import Derived.Test.YtijkfjahgijphaaContain2
set_option linter.unusedVariables false
set_option linter.unusedSimpArgs false
set_option maxRecDepth 100000
set_option maxHeartbeats 4000000
namespace Go.Proofs.Ytijkfjahgijphaa
open Go E Pred
/-- is it seen, of filters that may be? -/
def inP (p q : Pred) : Bool := mayP p && (mayP q && seenF (p.size + q.size) p q)
attribute [irreducible] inP
end Go.Proofs.Ytijkfjahgijphaa
