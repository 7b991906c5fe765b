/- What the seat's rows need: facts of the program; counts and versions as arguments. -/
import Derived.Test.YtjapbanelfcjhaaVec
import Derived.Test.YtjapbanelfcjhaaEvLaw
set_option linter.unusedVariables false
set_option linter.unusedSimpArgs false
set_option maxRecDepth 100000
namespace Go.Proofs.Ytjapbanelfcjhaa
open Go E Go.ChangeShapes Go.WideShapes Go.ChangeAt Go.RowKit
theorem all_lt {ts : List Nat} {n : Nat} (h : (ts.all fun t => decide (t < n)) = true) : ∀ t ∈ ts, t < n := fun t ht => of_decide_eq_true (List.all_eq_true.1 h t ht)
theorem all_rd {P : Program} {ts : List Nat} (h : (ts.all fun t => P.readableRec t) = true) : ∀ t ∈ ts, P.readableRec t = true := List.all_eq_true.1 h
theorem ownNone : ownKnob Try.prog.godebug = none := by kernel_rfl
theorem laidOut : laidOutB Try.prog = true := by kernel_rfl
theorem mixedF : Try.prog.follows .mixedOrders = true := by kernel_rfl
theorem sh3 : ShOk Try.prog 3 (.int .i64) := .int Try.underlying3
theorem cells3 : Try.prog.cellsOf 3 = 1 := by kernel_rfl
theorem cells40 : Try.prog.cellsOf 40 = 8 * 1 := by kernel_rfl
theorem cells73 : Try.prog.cellsOf 73 = 2 := by kernel_rfl
theorem sh40 : ShOk Try.prog 40 (repS (.int .i64) 8) := .arr (s := .int .i64) Try.underlying40 cells3 cells40 sh3 rfl
theorem sh73 : ShOk Try.prog 73 (.cat (.int .i64) (.cat (.int .i64) .nil)) := .struct Try.underlying73 cells73 (.cons rfl cells3 sh3 (.cons rfl cells3 sh3 .nil))
theorem fits_v8 {l : List PC} (h : Fits (repS (.int .i64) 8) l) : ∃ v : V8, l.map C.p = v.cells := by
  obtain ⟨_, _, rfl, ⟨x0, rfl, _⟩, _, _, rfl, ⟨x1, rfl, _⟩, _, _, rfl, ⟨x2, rfl, _⟩, _, _, rfl, ⟨x3, rfl, _⟩, _, _, rfl, ⟨x4, rfl, _⟩, _, _, rfl, ⟨x5, rfl, _⟩, _, _, rfl, ⟨x6, rfl, _⟩, _, _, rfl, ⟨x7, rfl, _⟩, rfl⟩ := h
  exact ⟨⟨x0, x1, x2, x3, x4, x5, x6, x7⟩, rfl⟩
theorem fits_ver {l : List PC} (h : Fits (.cat (.int .i64) (.cat (.int .i64) .nil)) l) : ∃ r c : Int, l.map C.p = [ic r, ic c] := by
  obtain ⟨_, _, rfl, ⟨x0, rfl, _⟩, _, _, rfl, ⟨x1, rfl, _⟩, rfl⟩ := h
  exact ⟨x0, x1, rfl⟩
section
variable {H : Type} {enc : TypeId × Value → H} {W : World} {v : Value} {d : DataW H} {ps : List MemPlace} {b0 : Nat}
theorem arg_v8 (hv : Value.okWide Try.prog W .any b0 40 v) (h : DataW.Trod enc Try.prog W 0 (fun _ => true) true 40 v d ps) : ∃ x : V8, VA W (zoneOf W) noLoc x.a v := by
  obtain ⟨l, h1, h2⟩ := arg_agg sh40 (.inr ⟨_, _, Try.underlying40⟩) hv h
  obtain ⟨x, hx⟩ := fits_v8 h1
  exact ⟨x, by rw [hx] at h2; exact h2⟩
theorem arg_ver (hv : Value.okWide Try.prog W .any b0 73 v) (h : DataW.Trod enc Try.prog W 0 (fun _ => true) true 73 v d ps) : ∃ r c : Int, VA W (zoneOf W) noLoc (ver r c) v := by
  obtain ⟨l, h1, h2⟩ := arg_agg sh73 (.inl ⟨_, Try.underlying73⟩) hv h
  obtain ⟨r, c, hx⟩ := fits_ver h1
  exact ⟨r, c, by rw [hx] at h2; exact h2⟩
end
end Go.Proofs.Ytjapbanelfcjhaa
