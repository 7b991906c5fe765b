/-
  Proved: for every input, gallipotlaw16.CodeSums returns true, and its argument reads behind the call as it did before.
  Conditions: none beyond those that the given row states (the row's own form; no narrowing).
-/
import Derived.Test.YtjapbanelfcjhaaRows
import Derived.Test.YtjapbanelfcjhaaCode4
import Derived.Test.YtjapbanelfcjhaaCodeArgs
set_option linter.unusedVariables false
set_option linter.unusedSimpArgs false
set_option maxRecDepth 100000
namespace Go.Proofs.Ytjapbanelfcjhaa
open Go E Go.ChangeShapes Go.WideShapes Go.ChangeAt Go.RowKit
theorem sums_call {c : PC} {xs : List Nat} (hc : C.BytesP c xs) : CallOk Try.prog 12 [.one (.p c)] [] (.one (.p (.v (.bool true)))) [] := by
  obtain ⟨r, s, ⟨rfl, rfl⟩, h⟩ := C.sums_ok (X := TaskOk Try.prog) (Q := fun r s => r = .one (.p (.v (.bool true))) ∧ s = []) (sound T_ok R.mixedF (fun _ _ _ h => h.elim)) hc ⟨rfl, rfl⟩
  exact h
theorem codeSums_lifted (os : Os) (started : os.Started) (H : Type) (enc : TypeId × Value → H) :
    ReturnsInHanded {} Try.checked os 12 .any (Rows.codeSumsSpec.pre6 enc Try.prog Try.f12 Rows.codeSumsRow.domain false) (Rows.codeSumsSpec.post enc Try.prog Try.f12 false true false false) := by
  refine returnsInHanded_of_change (C := Try.checked) R.ownNone started (by kernel_rfl) Try.func12
    (ChangeSpec.witness6 (enc := enc) (C := Try.checked) false ⟨#[], #[.slice none 0 0], []⟩ 8 (by kernel_rfl) (by kernel_rfl) (by kernel_rfl) (by kernel_rfl)) ?_
  intro W base args ds gs before hval0 hW hcnd _
  have hval : ∀ (j : Nat) t v, Try.f12.params[j]? = some t → args[j]? = some v → Value.okWide Try.prog W .any base t v := hval0
  have hW' : DataW.Whole enc Try.prog Try.f12.params.toList Rows.codeSumsSpec.vars false W args.toList ds gs before := hW
  obtain ⟨p, q, hA0, hV, -, hfz, hnd⟩ := hW
  have hA : DataW.TrodAll enc Try.prog W 0 (fun _ => true) true Try.f12.params.toList args.toList ds p := hA0
  rw [Try.params12] at hA hval
  obtain ⟨v0, d0, rfl, rfl, h0⟩ := trodAll_one hA
  obtain ⟨c, xs, hc, hc0⟩ := C.arg_bytes (hval 0 26 v0 rfl rfl) h0
  exact law_calls (P := Try.prog) (fn := Try.f12) (tb := 4) R.laidOut (R.all_rd (by kernel_rfl)) (R.all_lt (by kernel_rfl)) rfl Try.underlying4 rfl hW' rfl
    (.cons hc0 .nil) (sums_call hc)
theorem codeSums_holds : Rows.CodeSumsSaid :=
  OpenClaim.holds_of_wide 12 Try.f12 rfl rfl rfl rfl rfl rfl rfl ⟨rfl, rfl, rfl, rfl, rfl⟩ rfl rfl rfl rfl rfl (by kernel_rfl) Try.func12 (by kernel_rfl)
    (of_decide_eq_true (by kernel_rfl)) (by unfold Func.isWrapper; rw [if_neg (of_decide_eq_false (by kernel_rfl))]; exact ⟨rfl, rfl⟩)
    (fun os started H enc _ => codeSums_lifted os started H enc)
#print axioms codeSums_holds
end Go.Proofs.Ytjapbanelfcjhaa
