/- The statements of layer 4, walked. -/
import Derived.Test.YtijkfjahgijphaaAPlainRef2
set_option linter.unusedVariables false
set_option linter.unusedSimpArgs false
set_option maxRecDepth 100000
set_option maxHeartbeats 4000000
namespace Go.Proofs.Ytijkfjahgijphaa
open Go E Pred
abbrev ex4 : List Pred := [bare 2 [], bare 1 []]
abbrev item0 : Item := ⟨⟨#[]⟩, 0, 0, 0, ⟨#[]⟩, 0, 0, 0, false⟩
end Go.Proofs.Ytijkfjahgijphaa
