/- Items as arguments of laws. -/
import Derived.Test.YtijkfjahgijphaaAItem
import Derived.Test.YtijkfjahgijphaaAFlt
set_option linter.unusedVariables false
set_option linter.unusedSimpArgs false
set_option maxRecDepth 100000
set_option maxHeartbeats 4000000
namespace Go.Proofs.Ytijkfjahgijphaa
open Go E Go.ChangeShapes Go.WideShapes Go.ChangeAt Go.RowKit
theorem cellsStr : Try.prog.cellsOf 9 = 1 := by kernel_rfl
theorem shStr (n : Nat) : ShOk Try.prog n 9 .str := .str Try.underlying9
theorem cellsRow : Try.prog.cellsOf 82 = 9 := by kernel_rfl
abbrev rowSh : Sh := .cat .str (.cat (.int .i64) (.cat (.int .i64) (.cat (.int .i64) (.cat .str (.cat (.int .i64) (.cat (.flt .f64) (.cat (.flt .f64) (.cat .bool .nil))))))))
theorem shRow : ∀ n, ShOk Try.prog n 82 rowSh
  | 0 => .zero
  | n + 1 => .struct Try.underlying82 cellsRow (.cons rfl cellsStr (shStr n) (.cons rfl cellsInt (shInt n) (.cons rfl cellsInt (shInt n) (.cons rfl cellsInt (shInt n) (.cons rfl cellsStr (shStr n) (.cons rfl cellsInt (shInt n) (.cons rfl cellsFlt (shFlt n) (.cons rfl cellsFlt (shFlt n) (.cons rfl cellsBool (shBool n) .nil)))))))))
theorem fits_row {l : List PC} (h : Fits rowSh l) : ∃ x : Item, x.Ok ∧ l = x.lrow := by
  obtain ⟨_, _, rfl, ⟨x0, rfl, w0⟩, _, _, rfl, ⟨x1, rfl, w1⟩, _, _, rfl, ⟨x2, rfl, w2⟩, _, _, rfl, ⟨x3, rfl, w3⟩, _, _, rfl, ⟨x4, rfl, w4⟩, _, _, rfl, ⟨x5, rfl, w5⟩, _, _, rfl, ⟨x6, rfl, w6⟩, _, _, rfl, ⟨x7, rfl, w7⟩, _, _, rfl, ⟨x8, rfl⟩, rfl⟩ := h
  exact ⟨⟨x0, x1, x2, x3, x4, x5, x6, x7, x8⟩, ⟨Nat.le_trans w0 (by decide), Nat.le_trans w4 (by decide), i64_of w1, i64_of w2, i64_of w3, i64_of w5⟩, rfl⟩
section
variable {H : Type} {enc : TypeId × Value → H} {W : World} {v : Value} {d : DataW H} {ps : List MemPlace} {b0 : Nat}
end
end Go.Proofs.Ytijkfjahgijphaa
