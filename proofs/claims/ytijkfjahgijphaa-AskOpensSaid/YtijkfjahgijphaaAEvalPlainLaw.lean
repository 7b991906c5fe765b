/- The statement EvalPlain, out of what its code computes. -/
import Derived.Test.YtijkfjahgijphaaAL4
import Derived.Test.YtijkfjahgijphaaAPlainHas
set_option linter.unusedVariables false
set_option linter.unusedSimpArgs false
set_option maxRecDepth 100000
namespace Go.Proofs.Ytijkfjahgijphaa
open Go E Pred
noncomputable section
open Classical
theorem lsmall_t {p : Pred} (h : p.Ok) (hs : p.size ≤ 60) : law00_Small_s p = some 1 := by unfold law00_Small_s; rw [chk_t (decide_eq_true h), if_pos hs]
theorem lsmall_f {p : Pred} (h : p.Ok) (hs : ¬ p.size ≤ 60) : law00_Small_s p = some 0 := by unfold law00_Small_s; rw [chk_t (decide_eq_true h), if_neg hs]
theorem lpred_s {p : Pred} (h : p.Ok) (hs : p.size ≤ 1000) : law00_Pred_s p = some p := by unfold law00_Pred_s; rw [chk_t (decide_eq_true hs), chk_t (decide_eq_true h)]
end
end Go.Proofs.Ytijkfjahgijphaa
