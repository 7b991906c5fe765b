/- Steps of a walk that do not rewrite the goal: rows, results that are known, rounds. -/
import Derived.Test.YtijkfjahgijphaaABase
set_option linter.unusedVariables false
set_option linter.unusedSimpArgs false
namespace Go.Proofs.Ytijkfjahgijphaa
open Go E
theorem row_in {l : List (List PC)} {j : Int} {r : List PC} {k : List PC → Prop} (h : E.rowAt l j = r) (hk : mapF pF r k) : mapF pF (E.rowAt l j) k := h ▸ hk
theorem known {α : Type} {X : Task → Prop} {f : Nat} {xs : List A} {σ : List Blk} {Q : A → List Blk → Prop} {v w : α} (mk : α → A) (hcall : ∀ Q', Q' (mk v) [] → X (.call f xs σ Q')) (e : v = w) (h : Q (mk w) []) : X (.call f xs σ Q) := hcall Q (e ▸ h)
theorem range_ix {X : Task → Prop} {f m : Nat} {c : Code} {K : Ex → List A → List Blk → Prop} {ST : Type} (T' : Int → ST → List A) (S' : Int → ST → List Blk) (I : Nat → ST → Prop) (n j0 : Nat) (hj0 : j0 ≤ n)
    (hstep : ∀ (j : Nat) st, j0 ≤ j → j < n → I j st → (∀ (i : Int) st', i = ((j + 1 : Nat) : Int) → I (j + 1) st' → X (.loop f m c (T' i st') (S' i st') K)) → X (.loop f m c (T' (j : Int) st) (S' (j : Int) st) K))
    (hend : ∀ st, I n st → X (.loop f m c (T' (n : Int) st) (S' (n : Int) st) K)) (i0 : Int) (st0 : ST) (hi0 : i0 = (j0 : Int)) (h0 : I j0 st0) : X (.loop f m c (T' i0 st0) (S' i0 st0) K) := by
  subst hi0
  exact range_from (fun j st => T' (j : Int) st) (fun j st => S' (j : Int) st) I n j0 hj0 (fun j st h1 h2 h3 ih => hstep j st h1 h2 h3 fun i st' hi hI => by subst hi; exact ih st' hI) hend st0 h0
end Go.Proofs.Ytijkfjahgijphaa
