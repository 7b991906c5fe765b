/- slices.Grow of nil: its contract. -/
import Derived.Test.YtijkfjahgijphaaADel2
import Derived.Test.YtijkfjahgijphaaATypes
set_option linter.unusedVariables false
set_option linter.unusedSimpArgs false
namespace Go.Proofs.Ytijkfjahgijphaa.E
open Go Go.Lib Go.RowKit
end Go.Proofs.Ytijkfjahgijphaa.E
namespace Go.Proofs.Ytijkfjahgijphaa
open Go E
theorem slice_ok {α : Type} {f : α → List PC} {l : List α} {a b : Int} {sz : Nat} (h : (leI 0 a && (leI a b && leI b (l.length : Int))) = true) (hf : ∀ x, (f x).length = sz) : (lenC (l.map f) b && leI 0 a && leI a b && rowsOk (l.map f) sz) = true := by
  rw [Bool.and_eq_true, Bool.and_eq_true, leI_t, leI_t, leI_t] at h
  rw [rowsOk_map hf, Bool.and_true, leI_t.2 h.1, leI_t.2 h.2.1, Bool.and_true, Bool.and_true]
  unfold lenC; simp; omega
abbrev slrw {α : Type} (f : α → List PC) (l : List α) : List PC := [.sl (l.map f)]
end Go.Proofs.Ytijkfjahgijphaa
