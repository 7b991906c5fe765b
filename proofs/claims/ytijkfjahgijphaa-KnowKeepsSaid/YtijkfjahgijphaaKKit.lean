/- Steps of a walk that do not rewrite the goal: rows, results that are known, rounds. -/
import Derived.Test.YtijkfjahgijphaaKBase
set_option linter.unusedVariables false
set_option linter.unusedSimpArgs false
namespace Go.Proofs.Ytijkfjahgijphaa
open Go E
theorem row_in {l : List (List PC)} {j : Int} {r : List PC} {k : List PC → Prop} (h : E.rowAt l j = r) (hk : mapF pF r k) : mapF pF (E.rowAt l j) k := h ▸ hk
theorem known {α : Type} {X : Task → Prop} {f : Nat} {xs : List A} {σ : List Blk} {Q : A → List Blk → Prop} {v w : α} (mk : α → A) (hcall : ∀ Q', Q' (mk v) [] → X (.call f xs σ Q')) (e : v = w) (h : Q (mk w) []) : X (.call f xs σ Q) := hcall Q (e ▸ h)
end Go.Proofs.Ytijkfjahgijphaa
