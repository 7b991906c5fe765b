/- What the seat's rows need: facts of the program; arguments by their types. -/
import Derived.Test.YtjapbanelfcjhaaTab
import Derived.Test.YtjapbanelfcjhaaEvLaw
set_option linter.unusedVariables false
set_option linter.unusedSimpArgs false
set_option maxRecDepth 100000
namespace Go.Proofs.Ytjapbanelfcjhaa.R
open Go E Go.ChangeShapes Go.WideShapes Go.ChangeAt Go.RowKit
theorem all_lt {ts : List Nat} {n : Nat} (h : (ts.all fun t => decide (t < n)) = true) : ∀ t ∈ ts, t < n := fun t ht => of_decide_eq_true (List.all_eq_true.1 h t ht)
theorem all_rd {P : Program} {ts : List Nat} (h : (ts.all fun t => P.readableRec t) = true) : ∀ t ∈ ts, P.readableRec t = true := List.all_eq_true.1 h
theorem ownNone : ownKnob Try.prog.godebug = none := by kernel_rfl
theorem laidOut : laidOutB Try.prog = true := by kernel_rfl
theorem mixedF : Try.prog.follows .mixedOrders = true := by kernel_rfl
theorem cells3 : Try.prog.cellsOf 3 = 1 := by kernel_rfl
theorem cells5 : Try.prog.cellsOf 5 = 1 := by kernel_rfl
theorem cells26 : Try.prog.cellsOf 26 = 1 := by kernel_rfl
theorem sh3 : ShOk Try.prog 3 (.int .i64) := .int Try.underlying3
theorem sh5 : ShOk Try.prog 5 (.int .u8) := .int Try.underlying5
theorem sh26 : ShOk Try.prog 26 (.sl (.int .u8)) := .sl Try.underlying26 cells5 (by decide) sh5
theorem sh22 : ShOk Try.prog 22 (.sl (.sl (.int .u8))) := .sl Try.underlying22 cells26 (by decide) sh26
theorem bytes_ok {rows : List (List PC)} (h : ∀ r ∈ rows, Fits (.int .u8) r) : strOk rows = true := by
  unfold strOk
  rw [List.all_eq_true]
  intro r hr
  obtain ⟨n, rfl, _⟩ := h r hr
  rfl
end Go.Proofs.Ytjapbanelfcjhaa.R
