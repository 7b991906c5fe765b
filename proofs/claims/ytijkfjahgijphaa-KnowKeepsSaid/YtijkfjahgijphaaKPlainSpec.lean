/- Filters made plain (layer 4): what is told to be the same, and both answers, without the program. -/
import Derived.Test.YtijkfjahgijphaaKPredLaw
import Derived.Test.YtijkfjahgijphaaKEval
import Derived.Test.YtijkfjahgijphaaKContain
set_option linter.unusedVariables false
set_option linter.unusedSimpArgs false
set_option maxRecDepth 100000
namespace Go.Proofs.Ytijkfjahgijphaa
open Go E Pred
abbrev bare (o : Int) (ks : List Pred) : Pred := .mk o ⟨#[]⟩ 0 0 0 ks
def flatP (o : Int) : List Pred → List Pred
  | [] => []
  | k :: ks => (if eqI k.op o then k.kids else [k]) ++ flatP o ks
structure Plainly (p : Pred) : Prop where
  text : bytesOf p.text = bytesOf ⟨#[]⟩
  n : p.n = 0
  re : eqFl .f64 p.re 0 = true
  im : eqFl .f64 p.im 0 = true
end Go.Proofs.Ytijkfjahgijphaa
