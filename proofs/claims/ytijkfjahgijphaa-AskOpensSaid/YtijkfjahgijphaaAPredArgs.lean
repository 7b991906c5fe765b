/- Filters as arguments of laws. -/
import Derived.Test.YtijkfjahgijphaaAPred
import Derived.Test.YtijkfjahgijphaaAItemArgs
set_option linter.unusedVariables false
set_option linter.unusedSimpArgs false
set_option maxRecDepth 100000
set_option maxHeartbeats 4000000
namespace Go.Proofs.Ytijkfjahgijphaa
open Go E Go.ChangeShapes Go.WideShapes Go.ChangeAt Go.RowKit
theorem cellsTree : Try.prog.cellsOf 25 = 6 := by kernel_rfl
theorem cellsTrees : Try.prog.cellsOf 23 = 1 := by kernel_rfl
abbrev nodeSh (s : Sh) : Sh := .cat (.int .i64) (.cat .str (.cat (.int .i64) (.cat (.flt .f64) (.cat (.flt .f64) (.cat (.sl s) .nil)))))
def treeSh : Nat → Sh
  | 0 => .no 6
  | 1 => nodeSh (.no 6)
  | n + 2 => nodeSh (treeSh n)
theorem tree_size : ∀ n, (treeSh n).size = 6
  | 0 => rfl
  | 1 => rfl
  | n + 2 => rfl
theorem node_ok {n : Nat} {s : Sh} (hs : s.size = 6) (hk : ShOk Try.prog n 23 (.sl s)) : ShOk Try.prog (n + 1) 25 (nodeSh s) :=
  .struct Try.underlying25 cellsTree (.cons rfl cellsInt (shInt n) (.cons rfl cellsStr (shStr n) (.cons rfl cellsInt (shInt n) (.cons rfl cellsFlt (shFlt n) (.cons rfl cellsFlt (shFlt n) (.cons rfl cellsTrees hk .nil))))))
theorem shTree : ∀ n, ShOk Try.prog n 25 (treeSh n)
  | 0 => .zero
  | 1 => node_ok rfl .zero
  | n + 2 => node_ok (tree_size n) (.sl Try.underlying23 (by rw [tree_size]; exact cellsTree) (by rw [tree_size]; decide) (shTree n))
theorem rows_of {P : List PC → Prop} {Ok : Pred → Prop} (h : ∀ r, P r → ∃ p : Pred, Ok p ∧ r = p.lrow) : ∀ (l : List (List PC)), (∀ r ∈ l, P r) → ∃ ps : List Pred, (∀ p ∈ ps, Ok p) ∧ l = ps.map Pred.lrow
  | [], _ => ⟨[], by simp, rfl⟩
  | r :: l, hl => by
    obtain ⟨p, hp, rfl⟩ := h r (hl r (by simp))
    obtain ⟨ps, hps, rfl⟩ := rows_of h l fun r hr => hl r (by simp [hr])
    exact ⟨p :: ps, by simpa using ⟨hp, hps⟩, rfl⟩
theorem node_fits {s : Sh} {l : List PC} (hk : ∀ r, Fits s r → ∃ p : Pred, p.Ok ∧ r = p.lrow) (h : Fits (nodeSh s) l) : ∃ p : Pred, p.Ok ∧ l = p.lrow := by
  obtain ⟨_, _, rfl, ⟨x0, rfl, w0⟩, _, _, rfl, ⟨x1, rfl, w1⟩, _, _, rfl, ⟨x2, rfl, w2⟩, _, _, rfl, ⟨x3, rfl, w3⟩, _, _, rfl, ⟨x4, rfl, w4⟩, _, _, rfl, ⟨rs, rfl, w5, w6⟩, rfl⟩ := h
  obtain ⟨ps, h1, rfl⟩ := rows_of (P := Fits s) (Ok := Pred.Ok) hk rs w6
  refine ⟨.mk x0 x1 x2 x3 x4 ps, ?_, ?_⟩
  · unfold Pred.Ok
    exact ⟨i64_of w0, Nat.le_trans w1 (by decide), i64_of w2, by rw [List.length_map] at w5; exact Nat.le_trans w5 (by decide), Pred.Oks_of h1⟩
  · rw [Pred.lrow_eq]; simp only [Pred.lrows_eq]; rfl
theorem tree_fits : ∀ n {l : List PC}, Fits (treeSh n) l → ∃ p : Pred, p.Ok ∧ l = p.lrow
  | 0, l, h => False.elim h
  | 1, l, h => node_fits (s := .no 6) (fun r h => False.elim h) h
  | n + 2, l, h => node_fits (fun r h => tree_fits n h) h
section
variable {H : Type} {enc : TypeId × Value → H} {W : World} {v : Value} {d : DataW H} {ps : List MemPlace} {b0 : Nat}
end
end Go.Proofs.Ytijkfjahgijphaa
