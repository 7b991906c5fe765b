/-
  Proved: for every input, gallipotlaw16.CodeTurns returns true, and its arguments read behind the call as they did before.
  Conditions: none beyond those that the given row states (the row's own form; no narrowing).
-/
import Derived.Test.YtjapbanelfcjhaaRows
import Derived.Test.YtjapbanelfcjhaaCode5
import Derived.Test.YtjapbanelfcjhaaCodeArgs
set_option linter.unusedVariables false
set_option linter.unusedSimpArgs false
set_option maxRecDepth 100000
namespace Go.Proofs.Ytjapbanelfcjhaa
open Go E Go.ChangeShapes Go.WideShapes Go.ChangeAt Go.RowKit
theorem turns_call {c : PC} {xs : List Nat} (hc : C.BytesP c xs) (a : Int) {b : Nat} (hb : b < 256) : CallOk Try.prog 14 [.one (.p c), .one (.p (.v (.int .i64 a))), .one (.p (.v (.int .u8 (b : Int))))] [] (.one (.p (.v (.bool true)))) [] := by
  obtain ⟨r, s, ⟨rfl, rfl⟩, h⟩ := C.turns_ok (X := TaskOk Try.prog) (at_ := a) (Q := fun r s => r = .one (.p (.v (.bool true))) ∧ s = []) (sound T_ok R.mixedF (fun _ _ _ h => h.elim)) hb hc ⟨rfl, rfl⟩
  exact h
theorem codeTurns_lifted (os : Os) (started : os.Started) (H : Type) (enc : TypeId × Value → H) :
    ReturnsInHanded {} Try.checked os 14 .any (Rows.codeTurnsSpec.pre6 enc Try.prog Try.f14 Rows.codeTurnsRow.domain false) (Rows.codeTurnsSpec.post enc Try.prog Try.f14 false true false false) := by
  refine returnsInHanded_of_change (C := Try.checked) R.ownNone started (by kernel_rfl) Try.func14
    (ChangeSpec.witness6 (enc := enc) (C := Try.checked) false ⟨#[], #[.slice none 0 0, .int .i64 0, .int .u8 0], []⟩ 8 (by kernel_rfl) (by kernel_rfl) (by kernel_rfl) (by kernel_rfl)) ?_
  intro W base args ds gs before hval0 hW hcnd _
  have hval : ∀ (j : Nat) t v, Try.f14.params[j]? = some t → args[j]? = some v → Value.okWide Try.prog W .any base t v := hval0
  have hW' : DataW.Whole enc Try.prog Try.f14.params.toList Rows.codeTurnsSpec.vars false W args.toList ds gs before := hW
  obtain ⟨p, q, hA0, hV, -, hfz, hnd⟩ := hW
  have hA : DataW.TrodAll enc Try.prog W 0 (fun _ => true) true Try.f14.params.toList args.toList ds p := hA0
  rw [Try.params14] at hA hval
  obtain ⟨v0, v1, v2, d0, d1, d2, p0, p1, p2, rfl, rfl, -, h0, h1, h2⟩ := trodAll_three hA
  obtain ⟨c, xs, hc, hc0⟩ := C.arg_bytes (hval 0 26 v0 rfl rfl) h0
  obtain ⟨a, _, ha⟩ := arg_int Try.underlying3 (hval 1 3 v1 rfl rfl) h1
  obtain ⟨b, hw, hb⟩ := arg_int Try.underlying5 (hval 2 5 v2 rfl rfl) h2
  simp only [Lit.wf, Bool.and_eq_true, decide_eq_true_eq] at hw
  have w1 : 0 ≤ b := by have := hw.1; simpa [IntKind.min, IntKind.signed, IntKind.bits] using this
  have w2 : b ≤ 255 := by have := hw.2; simpa [IntKind.max, IntKind.signed, IntKind.bits] using this
  obtain ⟨m, rfl⟩ := Int.eq_ofNat_of_zero_le w1
  exact law_calls (P := Try.prog) (fn := Try.f14) (tb := 4) R.laidOut (R.all_rd (by kernel_rfl)) (R.all_lt (by kernel_rfl)) rfl Try.underlying4 rfl hW' rfl
    (.cons hc0 (.cons ha (.cons hb .nil))) (turns_call hc a (by omega))
theorem codeTurns_holds : Rows.CodeTurnsSaid :=
  OpenClaim.holds_of_wide 14 Try.f14 rfl rfl rfl rfl rfl rfl rfl ⟨rfl, rfl, rfl, rfl, rfl⟩ rfl rfl rfl rfl rfl (by kernel_rfl) Try.func14 (by kernel_rfl)
    (of_decide_eq_true (by kernel_rfl)) (by unfold Func.isWrapper; rw [if_neg (of_decide_eq_false (by kernel_rfl))]; exact ⟨rfl, rfl⟩)
    (fun os started H enc _ => codeTurns_lifted os started H enc)
#print axioms codeTurns_holds
end Go.Proofs.Ytjapbanelfcjhaa
