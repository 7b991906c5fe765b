/-
  Proved: for every input, gallipotlaw11.AskOpens returns true, and its arguments read behind the call as they did before.
  Conditions: none beyond those that the given row states (the row's own form; no narrowing).
-/
import Derived.Test.YtijkfjahgijphaaRows
import Derived.Test.YtijkfjahgijphaaASitArgs
set_option linter.unusedVariables false
set_option linter.unusedSimpArgs false
set_option maxRecDepth 100000
namespace Go.Proofs.Ytijkfjahgijphaa
open Go E Go.ChangeShapes Go.WideShapes Go.ChangeAt Go.RowKit
theorem askOpens_call (x0 : Sit) (o0 : x0.Ok) (x1 : Int) (o1 : (Lit.int .i64 x1).wf = true) (x2 : Int) (o2 : (Lit.int .i64 x2).wf = true) : CallOk Try.prog 3 [x0.la, iv x1, iv x2] [] (bv true) [] := by
  obtain ⟨r, s, ⟨rfl, rfl⟩, h⟩ := law_askOpens (X := TaskOk Try.prog) (Q := fun r s => r = bv true ∧ s = []) sound_ok o0   ⟨rfl, rfl⟩
  exact h
theorem askOpens_lifted (os : Os) (started : os.Started) (H : Type) (enc : TypeId × Value → H) :
    ReturnsInHanded {} Try.checked os 3 .any (Rows.askOpensSpec.pre6 enc Try.prog Try.f3 Rows.askOpensRow.domain false) (Rows.askOpensSpec.post enc Try.prog Try.f3 false true false false) := by
  refine returnsInHanded_of_change (C := Try.checked) ownNone started (by kernel_rfl) Try.func3
    (ChangeSpec.witness6 (enc := enc) (C := Try.checked) false ⟨#[], #[.agg #[.int .i64 0, .int .i64 0, .string ⟨#[]⟩, .int .i64 0, .float .f64 0, .float .f64 0, .slice none 0 0, .slice none 0 0, .slice none 0 0, .int .i64 0, .int .i64 0, .int .i64 0, .int .i64 0, .int .i64 0, .int .i64 0, .int .i64 0, .int .i64 0, .slice none 0 0, .int .i64 0, .int .i64 0, .int .i64 0], .int .i64 0, .int .i64 0], []⟩ 8 (by kernel_rfl) (by kernel_rfl) (by kernel_rfl) (by kernel_rfl)) ?_
  intro W base args ds gs before hval0 hW hcnd _
  have hval : ∀ (j : Nat) t v, Try.f3.params[j]? = some t → args[j]? = some v → Value.okWide Try.prog W .any base t v := hval0
  have hW' : DataW.Whole enc Try.prog Try.f3.params.toList Rows.askOpensSpec.vars false W args.toList ds gs before := hW
  obtain ⟨p, q, hA0, hV, -, hfz, hnd⟩ := hW
  have hA : DataW.TrodAll enc Try.prog W 0 (fun _ => true) true Try.f3.params.toList args.toList ds p := hA0
  rw [Try.params3] at hA hval
  obtain ⟨v0, v1, v2, d0, d1, d2, p0, p1, p2, rfl, rfl, -, h0, h1, h2⟩ := trodAll_three hA
  obtain ⟨x0, o0, e0⟩ := arg_sit (hval 0 33 v0 rfl rfl) h0
  obtain ⟨x1, o1, e1⟩ := arg_int Try.underlying3 (hval 1 3 v1 rfl rfl) h1
  obtain ⟨x2, o2, e2⟩ := arg_int Try.underlying3 (hval 2 3 v2 rfl rfl) h2
  exact law_calls (P := Try.prog) (fn := Try.f3) (tb := 4) laidOut (all_rd (by kernel_rfl)) (all_lt (by kernel_rfl)) rfl Try.underlying4 rfl hW' rfl
    (.cons e0 (.cons e1 (.cons e2 .nil))) (askOpens_call x0 o0 x1 o1 x2 o2)
theorem askOpens_holds : Rows.AskOpensSaid :=
  OpenClaim.holds_of_wide 3 Try.f3 rfl rfl rfl rfl rfl rfl rfl ⟨rfl, rfl, rfl, rfl, rfl⟩ rfl rfl rfl rfl rfl (by kernel_rfl) Try.func3 (by kernel_rfl)
    (of_decide_eq_true (by kernel_rfl)) (by unfold Func.isWrapper; rw [if_neg (of_decide_eq_false (by kernel_rfl))]; exact ⟨rfl, rfl⟩)
    (fun os started H enc _ => askOpens_lifted os started H enc)
#print axioms askOpens_holds
end Go.Proofs.Ytijkfjahgijphaa
