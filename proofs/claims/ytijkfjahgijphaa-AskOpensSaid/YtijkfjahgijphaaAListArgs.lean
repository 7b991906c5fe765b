/- Lists of items as arguments of laws. -/
import Derived.Test.YtijkfjahgijphaaAItemArgs
set_option linter.unusedVariables false
set_option linter.unusedSimpArgs false
set_option maxRecDepth 100000
set_option maxHeartbeats 4000000
namespace Go.Proofs.Ytijkfjahgijphaa
open Go E Go.ChangeShapes Go.WideShapes Go.ChangeAt Go.RowKit
theorem cellsRows : Try.prog.cellsOf 26 = 1 := by kernel_rfl
theorem shRows : ∀ n, ShOk Try.prog n 26 (.sl rowSh)
  | 0 => .zero
  | n + 1 => .sl Try.underlying26 cellsRow (by decide) (shRow n)
theorem list_of {α : Type} {P : List PC → Prop} {Ok : α → Prop} {f : α → List PC} (h : ∀ r, P r → ∃ x, Ok x ∧ r = f x) : ∀ (l : List (List PC)), (∀ r ∈ l, P r) → ∃ xs : List α, (∀ x ∈ xs, Ok x) ∧ l = xs.map f
  | [], _ => ⟨[], by simp, rfl⟩
  | r :: l, hl => by
    obtain ⟨x, hx, rfl⟩ := h r (hl r (by simp))
    obtain ⟨xs, hxs, rfl⟩ := list_of h l fun r hr => hl r (by simp [hr])
    exact ⟨x :: xs, by simpa using ⟨hx, hxs⟩, rfl⟩
theorem fits_rows {l : List PC} (h : Fits (.sl rowSh) l) : ∃ xs : List Item, (∀ x ∈ xs, x.Ok) ∧ l = [.sl (xs.map Item.lrow)] := by
  obtain ⟨rows, rfl, _, hr⟩ := h
  obtain ⟨xs, hx, rfl⟩ := list_of (P := Fits rowSh) (Ok := Item.Ok) (f := Item.lrow) (fun r h => fits_row h) rows hr
  exact ⟨xs, hx, rfl⟩
section
variable {H : Type} {enc : TypeId × Value → H} {W : World} {v : Value} {d : DataW H} {ps : List MemPlace} {b0 : Nat}
end
end Go.Proofs.Ytijkfjahgijphaa
