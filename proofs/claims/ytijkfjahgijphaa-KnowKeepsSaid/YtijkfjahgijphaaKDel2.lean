/- slices.Insert and slices.Delete at items, told of slices as lists: as decomp.py asks for them. -/
import Derived.Test.YtijkfjahgijphaaKDel
import Derived.Test.YtijkfjahgijphaaKSpec
import Derived.Test.YtijkfjahgijphaaKItem
set_option linter.unusedVariables false
set_option linter.unusedSimpArgs false
set_option maxRecDepth 100000
set_option maxHeartbeats 4000000
namespace Go.Proofs.Ytijkfjahgijphaa.E
open Go Go.Lib Go.RowKit
end Go.Proofs.Ytijkfjahgijphaa.E
namespace Go.Proofs.Ytijkfjahgijphaa
open Go E
end Go.Proofs.Ytijkfjahgijphaa
