/- Counts of replicas (layer 6), the program's and the document's. -/
import Derived.Test.YtidkmoohgadjkaaBKit
set_option linter.unusedVariables false
set_option linter.unusedSimpArgs false
set_option maxRecDepth 100000
set_option maxHeartbeats 4000000
namespace Go.Proofs.Ytidkmoohgadjkaa
open Go E
structure V8 where
  x0 : Int
  x1 : Int
  x2 : Int
  x3 : Int
  x4 : Int
  x5 : Int
  x6 : Int
  x7 : Int
abbrev V8.cells (v : V8) : List C := [ic v.x0, ic v.x1, ic v.x2, ic v.x3, ic v.x4, ic v.x5, ic v.x6, ic v.x7]
abbrev V8.a (v : V8) : A := .agg v.cells
abbrev ver (r c : Int) : A := .agg [ic r, ic c]
def V8.at (v : V8) (r : Int) : Int := if r = 1 then v.x0 else if r = 2 then v.x1 else if r = 3 then v.x2 else if r = 4 then v.x3 else if r = 5 then v.x4 else if r = 6 then v.x5 else if r = 7 then v.x6 else if r = 8 then v.x7 else 0
def V8.put (v : V8) (r c : Int) : V8 :=
  if r = 1 then { v with x0 := c } else if r = 2 then { v with x1 := c } else if r = 3 then { v with x2 := c } else if r = 4 then { v with x3 := c }
  else if r = 5 then { v with x4 := c } else if r = 6 then { v with x5 := c } else if r = 7 then { v with x6 := c } else if r = 8 then { v with x7 := c } else v
section
variable {X : Task → Prop} (hX : Closed X) {Q : A → List Blk → Prop}
include hX
end
section
variable {a b w c m : V8} {r n : Int}
end
section
variable {X : Task → Prop} (hX : Closed X) {a b : V8} {K : Ex → List A → List Blk → Prop}
include hX
abbrev refMaxEnd (a b o : V8) (K : Ex → List A → List Blk → Prop) : Prop :=
  K (.exit 0) (pad [(2, .one (.ptr 0 0)), (0, .one (.ptr 1 0)), (0, .one (.ptr 2 0)), (0, .one (.ptr 3 0)), (0, iv 8), (0, iv 8), (0, bv false)] 20) [.box a.cells, .box b.cells, .box [ic 0, ic 0, ic 0, ic 0, ic 0, ic 0, ic 0, ic 0], .box o.cells]
end
end Go.Proofs.Ytidkmoohgadjkaa
