/- Items as arguments of laws. -/
import Derived.Test.YtijkfjahgijphaaKItem
import Derived.Test.YtijkfjahgijphaaKFlt
set_option linter.unusedVariables false
set_option linter.unusedSimpArgs false
set_option maxRecDepth 100000
set_option maxHeartbeats 4000000
namespace Go.Proofs.Ytijkfjahgijphaa
open Go E Go.ChangeShapes Go.WideShapes Go.ChangeAt Go.RowKit
theorem cellsStr : Try.prog.cellsOf 9 = 1 := by kernel_rfl
theorem shStr (n : Nat) : ShOk Try.prog n 9 .str := .str Try.underlying9
abbrev rowSh : Sh := .cat .str (.cat (.int .i64) (.cat (.int .i64) (.cat (.int .i64) (.cat .str (.cat (.int .i64) (.cat (.flt .f64) (.cat (.flt .f64) (.cat .bool .nil))))))))
section
variable {H : Type} {enc : TypeId × Value → H} {W : World} {v : Value} {d : DataW H} {ps : List MemPlace} {b0 : Nat}
end
end Go.Proofs.Ytijkfjahgijphaa
