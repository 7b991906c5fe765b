/- The evaluator is sound; facts of the program; arguments by their types. -/
import Derived.Test.YtijkfjahgijphaaKBase
import Derived.Test.YtijkfjahgijphaaKEvF
set_option linter.unusedVariables false
set_option linter.unusedSimpArgs false
set_option maxRecDepth 100000
set_option maxHeartbeats 4000000
namespace Go.Proofs.Ytijkfjahgijphaa
open Go E Go.RowKit
theorem prim_ok : ∀ f xs σ r σ', prim f xs σ r σ' → CallOk Try.prog f xs σ r σ' := fun _ _ _ _ _ h => h
theorem all_lt {ts : List Nat} {n : Nat} (h : (ts.all fun t => decide (t < n)) = true) : ∀ t ∈ ts, t < n := fun t ht => of_decide_eq_true (List.all_eq_true.1 h t ht)
theorem all_rd {P : Program} {ts : List Nat} (h : (ts.all fun t => P.readableRec t) = true) : ∀ t ∈ ts, P.readableRec t = true := List.all_eq_true.1 h
theorem ownNone : ownKnob Try.prog.godebug = none := by kernel_rfl
theorem laidOut : laidOutB Try.prog = true := by kernel_rfl
theorem mixedF : Try.prog.follows .mixedOrders = true := by kernel_rfl
theorem cellsInt : Try.prog.cellsOf 3 = 1 := by kernel_rfl
theorem shInt (n : Nat) : ShOk Try.prog n 3 (.int .i64) := .int Try.underlying3
theorem sound_ok : Closed (TaskOk Try.prog) := sound T_ok mixedF prim_ok
theorem i64_of {n : Int} (h : (Lit.int .i64 n).wf = true) : -9223372036854775808 ≤ n ∧ n ≤ 9223372036854775807 := by
  simp only [Lit.wf, Bool.and_eq_true, decide_eq_true_eq] at h
  exact ⟨by simpa [IntKind.min, IntKind.signed, IntKind.bits] using h.1, by simpa [IntKind.max, IntKind.signed, IntKind.bits] using h.2⟩
end Go.Proofs.Ytijkfjahgijphaa
