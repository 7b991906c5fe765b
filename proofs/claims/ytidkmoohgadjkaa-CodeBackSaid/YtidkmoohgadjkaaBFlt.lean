/- The evaluator is sound; facts of the program; arguments by their types. -/
import Derived.Test.YtidkmoohgadjkaaBBase
import Derived.Test.YtidkmoohgadjkaaBEvF
set_option linter.unusedVariables false
set_option linter.unusedSimpArgs false
set_option maxRecDepth 100000
set_option maxHeartbeats 4000000
namespace Go.Proofs.Ytidkmoohgadjkaa
open Go E Go.RowKit
theorem prim_ok : ∀ f xs σ r σ', prim f xs σ r σ' → CallOk Try.prog f xs σ r σ' := fun _ _ _ _ _ h => h
theorem all_lt {ts : List Nat} {n : Nat} (h : (ts.all fun t => decide (t < n)) = true) : ∀ t ∈ ts, t < n := fun t ht => of_decide_eq_true (List.all_eq_true.1 h t ht)
theorem all_rd {P : Program} {ts : List Nat} (h : (ts.all fun t => P.readableRec t) = true) : ∀ t ∈ ts, P.readableRec t = true := List.all_eq_true.1 h
theorem ownNone : ownKnob Try.prog.godebug = none := by kernel_rfl
theorem laidOut : laidOutB Try.prog = true := by kernel_rfl
theorem mixedF : Try.prog.follows .mixedOrders = true := by kernel_rfl
theorem sound_ok : Closed (TaskOk Try.prog) := sound T_ok mixedF prim_ok
end Go.Proofs.Ytidkmoohgadjkaa
