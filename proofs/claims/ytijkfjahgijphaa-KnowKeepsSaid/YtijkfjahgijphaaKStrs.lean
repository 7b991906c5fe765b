/- Texts in their order; rising items. -/
import Derived.Sort.Walk0
import Derived.Test.YtijkfjahgijphaaKItem
set_option linter.unusedVariables false
set_option linter.unusedSimpArgs false
namespace Go.Proofs.Ytijkfjahgijphaa
open Go E
theorem ltS_lt (a b : ByteArray) : ltS a b = decide (a.data.toList < b.data.toList) := bytesLess_eq _ _
theorem byt_ext {a b : ByteArray} (h : a.data.toList = b.data.toList) : a = b := by
  cases a; cases b; simp at h; rw [h]
theorem eqS_t {a b : ByteArray} : eqS a b = true ↔ a = b := by
  unfold eqS; rw [beq_iff_eq]; exact ⟨byt_ext, fun h => by rw [h]⟩
theorem eqS_self (a : ByteArray) : eqS a a = true := eqS_t.2 rfl
theorem eqS_f {a b : ByteArray} : eqS a b = false ↔ a ≠ b := by
  rw [← Bool.not_eq_true, eqS_t]
theorem eqS_comm' (a b : ByteArray) : eqS a b = eqS b a := by
  cases h : eqS b a with
  | true => rw [eqS_t] at h ⊢; exact h.symm
  | false => rw [eqS_f] at h ⊢; exact fun e => h e.symm
theorem ltS_self (a : ByteArray) : ltS a a = false := by rw [ltS_lt, decide_eq_false_iff_not]; exact List.lt_irrefl _
theorem ltS_tr {a b c : ByteArray} (h : ltS a b = true) (h' : ltS b c = true) : ltS a c = true := by
  rw [ltS_lt, decide_eq_true_eq] at *; exact List.lt_trans h h'
theorem ltS_asym {a b : ByteArray} (h : ltS a b = true) : ltS b a = false := by
  cases h' : ltS b a with
  | false => rfl
  | true => have := ltS_tr h h'; rw [ltS_self] at this; cases this
theorem ltS_tri {a b : ByteArray} (h : ltS a b = false) (h' : ltS b a = false) : a = b := by
  rw [ltS_lt, decide_eq_false_iff_not] at *
  exact byt_ext (List.le_antisymm (List.not_lt.1 h') (List.not_lt.1 h))
theorem ltS_ne {a b : ByteArray} (h : ltS a b = true) : eqS a b = false := by
  rw [eqS_f]; rintro rfl; rw [ltS_self] at h; cases h
end Go.Proofs.Ytijkfjahgijphaa
