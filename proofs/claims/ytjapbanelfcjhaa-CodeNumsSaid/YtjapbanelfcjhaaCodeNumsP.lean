/-
  Proved: for every input, gallipotlaw16.CodeNums returns true, and its arguments read behind the call as they did before.
  Conditions: none beyond those that the given row states (the row's own form; no narrowing).
-/
import Derived.Test.YtjapbanelfcjhaaRows
import Derived.Test.YtjapbanelfcjhaaCodeU
import Derived.Test.YtjapbanelfcjhaaCodeArgs
set_option linter.unusedVariables false
set_option linter.unusedSimpArgs false
set_option maxRecDepth 100000
namespace Go.Proofs.Ytjapbanelfcjhaa
open Go E Go.ChangeShapes Go.WideShapes Go.ChangeAt Go.RowKit
theorem nums_call {c : PC} {xs : List Nat} (hc : C.BytesP c xs) (n : Int) (s : ByteArray) : CallOk Try.prog 11 [.one (.p (.v (.int .i64 n))), .one (.p (.v (.string s))), .one (.p c)] [] (.one (.p (.v (.bool true)))) [] := by
  obtain ⟨r, s', ⟨rfl, rfl⟩, h⟩ := C.nums_ok (X := TaskOk Try.prog) (n := n) (s := s) (Q := fun r s => r = .one (.p (.v (.bool true))) ∧ s = []) (sound T_ok R.mixedF (fun _ _ _ h => h.elim)) hc ⟨rfl, rfl⟩
  exact h
theorem codeNums_lifted (os : Os) (started : os.Started) (H : Type) (enc : TypeId × Value → H) :
    ReturnsInHanded {} Try.checked os 11 .any (Rows.codeNumsSpec.pre6 enc Try.prog Try.f11 Rows.codeNumsRow.domain false) (Rows.codeNumsSpec.post enc Try.prog Try.f11 false true false false) := by
  refine returnsInHanded_of_change (C := Try.checked) R.ownNone started (by kernel_rfl) Try.func11
    (ChangeSpec.witness6 (enc := enc) (C := Try.checked) false ⟨#[], #[.int .i64 0, .string ⟨#[]⟩, .slice none 0 0], []⟩ 8 (by kernel_rfl) (by kernel_rfl) (by kernel_rfl) (by kernel_rfl)) ?_
  intro W base args ds gs before hval0 hW hcnd _
  have hval : ∀ (j : Nat) t v, Try.f11.params[j]? = some t → args[j]? = some v → Value.okWide Try.prog W .any base t v := hval0
  have hW' : DataW.Whole enc Try.prog Try.f11.params.toList Rows.codeNumsSpec.vars false W args.toList ds gs before := hW
  obtain ⟨p, q, hA0, hV, -, hfz, hnd⟩ := hW
  have hA : DataW.TrodAll enc Try.prog W 0 (fun _ => true) true Try.f11.params.toList args.toList ds p := hA0
  rw [Try.params11] at hA hval
  obtain ⟨v0, v1, v2, d0, d1, d2, p0, p1, p2, rfl, rfl, -, h0, h1, h2⟩ := trodAll_three hA
  obtain ⟨n, _, hn⟩ := arg_int Try.underlying3 (hval 0 3 v0 rfl rfl) h0
  obtain ⟨s, _, hs⟩ := arg_str Try.underlying9 (hval 1 9 v1 rfl rfl) h1
  obtain ⟨c, xs, hc, hc0⟩ := C.arg_bytes (hval 2 26 v2 rfl rfl) h2
  exact law_calls (P := Try.prog) (fn := Try.f11) (tb := 4) R.laidOut (R.all_rd (by kernel_rfl)) (R.all_lt (by kernel_rfl)) rfl Try.underlying4 rfl hW' rfl
    (.cons hn (.cons hs (.cons hc0 .nil))) (nums_call hc n s)
theorem codeNums_holds : Rows.CodeNumsSaid :=
  OpenClaim.holds_of_wide 11 Try.f11 rfl rfl rfl rfl rfl rfl rfl ⟨rfl, rfl, rfl, rfl, rfl⟩ rfl rfl rfl rfl rfl (by kernel_rfl) Try.func11 (by kernel_rfl)
    (of_decide_eq_true (by kernel_rfl)) (by unfold Func.isWrapper; rw [if_neg (of_decide_eq_false (by kernel_rfl))]; exact ⟨rfl, rfl⟩)
    (fun os started H enc _ => codeNums_lifted os started H enc)
#print axioms codeNums_holds
end Go.Proofs.Ytjapbanelfcjhaa
