/- slices.Insert at rows of eight cells (items): its contract, walked. -/
import Derived.Lib.AppendZerosOnto
import Derived.Lib.Overlaps
import Derived.Shelf.RegionOpenPlain
import Derived.WalkKit
import Derived.WalkSpells
import Derived.Deep.RegionLaw
import Derived.Lib.Walk
import Derived.Laws.NewBlocks
import Derived.Test.YtijkfjahgijphaaKBase
set_option linter.unusedVariables false
set_option linter.unusedSimpArgs false
namespace Go.Proofs.Ytijkfjahgijphaa
open Go E Go.Lib Go.RowKit
end Go.Proofs.Ytijkfjahgijphaa
