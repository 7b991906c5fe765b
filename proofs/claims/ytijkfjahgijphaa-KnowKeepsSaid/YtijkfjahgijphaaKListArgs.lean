/- Lists of items as arguments of laws. -/
import Derived.Test.YtijkfjahgijphaaKItemArgs
set_option linter.unusedVariables false
set_option linter.unusedSimpArgs false
set_option maxRecDepth 100000
set_option maxHeartbeats 4000000
namespace Go.Proofs.Ytijkfjahgijphaa
open Go E Go.ChangeShapes Go.WideShapes Go.ChangeAt Go.RowKit
theorem list_of {α : Type} {P : List PC → Prop} {Ok : α → Prop} {f : α → List PC} (h : ∀ r, P r → ∃ x, Ok x ∧ r = f x) : ∀ (l : List (List PC)), (∀ r ∈ l, P r) → ∃ xs : List α, (∀ x ∈ xs, Ok x) ∧ l = xs.map f
  | [], _ => ⟨[], by simp, rfl⟩
  | r :: l, hl => by
    obtain ⟨x, hx, rfl⟩ := h r (hl r (by simp))
    obtain ⟨xs, hxs, rfl⟩ := list_of h l fun r hr => hl r (by simp [hr])
    exact ⟨x :: xs, by simpa using ⟨hx, hxs⟩, rfl⟩
section
variable {H : Type} {enc : TypeId × Value → H} {W : World} {v : Value} {d : DataW H} {ps : List MemPlace} {b0 : Nat}
end
end Go.Proofs.Ytijkfjahgijphaa
