/- Rounds: over a list, with fuel; ways that meet. (Only those that are used.) -/
import Derived.Test.YtidkmoohgadjkaaBSpec
set_option linter.unusedVariables false
namespace Go.Proofs.Ytidkmoohgadjkaa
open Go E
theorem join0 {R : Type} {X : Task → Prop} {f m : Nat} {c : Code} {K : Ex → List A → List Blk → Prop} {r : R} {G : Prop} {j : Option R} (T' : List A) (S' : List Blk)
    (main : Hold (j = some r → X (.rest f m c T' S' K)) → G) (tail : j = some r → X (.rest f m c T' S' K)) : G := main ⟨tail⟩
end Go.Proofs.Ytidkmoohgadjkaa
