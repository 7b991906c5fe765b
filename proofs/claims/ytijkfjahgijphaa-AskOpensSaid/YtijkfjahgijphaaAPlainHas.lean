/- Filters made plain (layer 4): they have the same items, and stay when made plain again. -/
import Derived.Test.YtijkfjahgijphaaAPlainSpec
import Derived.Test.YtijkfjahgijphaaAContainLaw
set_option linter.unusedVariables false
set_option linter.unusedSimpArgs false
set_option maxRecDepth 100000
namespace Go.Proofs.Ytijkfjahgijphaa
open Go E Pred
inductive NF : Pred → Prop
  | leaf {o t n x y} : o ≠ 8 → o ≠ 9 → o ≠ 10 → NF (.mk o t n x y [])
  | some {ks} : (∀ k ∈ ks, NF k) → (∀ k ∈ ks, k.op ≠ 9 ∧ k.op ≠ 1) → ks.foldl (addP 2) [] = ks → 2 ≤ ks.length → NF (bare 9 ks)
  | all {ks} : (∀ k ∈ ks, NF k) → (∀ k ∈ ks, k.op ≠ 8 ∧ k.op ≠ 2) → ks.foldl (addP 1) [] = ks → 2 ≤ ks.length → NF (bare 8 ks)
  | no {k} : NF k → k.op ≠ 1 → k.op ≠ 2 → k.op ≠ 10 → NF (bare 10 [k])
end Go.Proofs.Ytijkfjahgijphaa
