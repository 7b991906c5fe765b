/- Steps of a walk that do not rewrite the goal: rows, results that are known, rounds. -/
import Derived.Test.YtidkmoohgadjkaaBBase
set_option linter.unusedVariables false
set_option linter.unusedSimpArgs false
namespace Go.Proofs.Ytidkmoohgadjkaa
open Go E
theorem known {α : Type} {X : Task → Prop} {f : Nat} {xs : List A} {σ : List Blk} {Q : A → List Blk → Prop} {v w : α} (mk : α → A) (hcall : ∀ Q', Q' (mk v) [] → X (.call f xs σ Q')) (e : v = w) (h : Q (mk w) []) : X (.call f xs σ Q) := hcall Q (e ▸ h)
end Go.Proofs.Ytidkmoohgadjkaa
