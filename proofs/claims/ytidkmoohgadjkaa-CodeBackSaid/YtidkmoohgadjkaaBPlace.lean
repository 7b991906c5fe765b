/- Places (layer 1): what each function computes, the program's and the document's. -/
import Derived.Test.YtidkmoohgadjkaaBTrunc
set_option linter.unusedVariables false
set_option linter.unusedSimpArgs false
set_option maxRecDepth 100000
set_option maxHeartbeats 4000000
namespace Go.Proofs.Ytidkmoohgadjkaa
open Go E
end Go.Proofs.Ytidkmoohgadjkaa
