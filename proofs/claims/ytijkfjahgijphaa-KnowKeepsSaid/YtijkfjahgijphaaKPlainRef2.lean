/- Filters made plain (layer 4): the document's answer, out of what its code computes. -/
import Derived.Test.YtijkfjahgijphaaKG0
set_option linter.unusedVariables false
set_option linter.unusedSimpArgs false
set_option maxRecDepth 100000
namespace Go.Proofs.Ytijkfjahgijphaa
open Go E Pred
section
variable {α β : Type}
theorem br_if (c : Bool) (x y : Option α) : br c x y = if c = true then x else y := by cases c <;> rfl
theorem br_t {c : Bool} {x y : Option α} (h : c = true) : br c x y = x := by rw [h]; rfl
theorem br_f {c : Bool} {x y : Option α} (h : c = false) : br c x y = y := by rw [h]; rfl
theorem chk_t {c : Bool} {x : Option α} (h : c = true) : chk c x = x := by rw [h]; rfl
theorem bnd_of {x : Option α} {a : α} {f : α → Option β} (h : x = some a) : bnd x f = f a := by rw [h]; rfl
theorem roomL_of {a b : Nat} (h : a + b ≤ 1000000) : roomL a b = true := decide_eq_true h
theorem smallL_of {l : List α} (h : l.length ≤ 1000000000) : smallL l = true := decide_eq_true h
end
noncomputable section
open Classical
end
end Go.Proofs.Ytijkfjahgijphaa
