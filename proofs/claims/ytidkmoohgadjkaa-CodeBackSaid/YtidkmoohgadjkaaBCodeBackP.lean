/-
  Proved: for every input, gallipotlaw16.CodeBack returns true, and its arguments read behind the call as they did before.
  Conditions: none beyond those that the given row states (the row's own form; no narrowing).
-/
import Derived.Test.YtidkmoohgadjkaaRows
import Derived.Test.YtidkmoohgadjkaaBCodeBackLaw
import Derived.Test.YtidkmoohgadjkaaBBytesArgs
set_option linter.unusedVariables false
set_option linter.unusedSimpArgs false
set_option maxRecDepth 100000
namespace Go.Proofs.Ytidkmoohgadjkaa
open Go E Go.ChangeShapes Go.WideShapes Go.ChangeAt Go.RowKit
theorem codeBack_call (x0 : Int) (o0 : (Lit.int .i64 x0).wf = true) (x1 : ByteArray) (o1 : x1.size ≤ maxLen) (x2 : List Nat) (o2 : ∀ y ∈ x2, y < 256) : CallOk Try.prog 3 [iv x0, sv x1, sl (x2.map brw)] [] (bv true) [] := by
  obtain ⟨r, s, ⟨rfl, rfl⟩, h⟩ := law_codeBack (X := TaskOk Try.prog) (Q := fun r s => r = bv true ∧ s = []) sound_ok  (Nat.le_trans o1 (by decide)) o2 ⟨rfl, rfl⟩
  exact h
theorem codeBack_lifted (os : Os) (started : os.Started) (H : Type) (enc : TypeId × Value → H) :
    ReturnsInHanded {} Try.checked os 3 .any (Rows.codeBackSpec.pre6 enc Try.prog Try.f3 Rows.codeBackRow.domain false) (Rows.codeBackSpec.post enc Try.prog Try.f3 false true false false) := by
  refine returnsInHanded_of_change (C := Try.checked) ownNone started (by kernel_rfl) Try.func3
    (ChangeSpec.witness6 (enc := enc) (C := Try.checked) false ⟨#[], #[.int .i64 0, .string ⟨#[]⟩, .slice none 0 0], []⟩ 8 (by kernel_rfl) (by kernel_rfl) (by kernel_rfl) (by kernel_rfl)) ?_
  intro W base args ds gs before hval0 hW hcnd _
  have hval : ∀ (j : Nat) t v, Try.f3.params[j]? = some t → args[j]? = some v → Value.okWide Try.prog W .any base t v := hval0
  have hW' : DataW.Whole enc Try.prog Try.f3.params.toList Rows.codeBackSpec.vars false W args.toList ds gs before := hW
  obtain ⟨p, q, hA0, hV, -, hfz, hnd⟩ := hW
  have hA : DataW.TrodAll enc Try.prog W 0 (fun _ => true) true Try.f3.params.toList args.toList ds p := hA0
  rw [Try.params3] at hA hval
  obtain ⟨v0, v1, v2, d0, d1, d2, p0, p1, p2, rfl, rfl, -, h0, h1, h2⟩ := trodAll_three hA
  obtain ⟨x0, o0, e0⟩ := arg_int Try.underlying3 (hval 0 3 v0 rfl rfl) h0
  obtain ⟨x1, o1, e1⟩ := arg_str Try.underlying9 (hval 1 9 v1 rfl rfl) h1
  obtain ⟨x2, o2, e2⟩ := arg_bytes (hval 2 22 v2 rfl rfl) h2
  exact law_calls (P := Try.prog) (fn := Try.f3) (tb := 4) laidOut (all_rd (by kernel_rfl)) (all_lt (by kernel_rfl)) rfl Try.underlying4 rfl hW' rfl
    (.cons e0 (.cons e1 (.cons e2 .nil))) (codeBack_call x0 o0 x1 o1 x2 o2)
theorem codeBack_holds : Rows.CodeBackSaid :=
  OpenClaim.holds_of_wide 3 Try.f3 rfl rfl rfl rfl rfl rfl rfl ⟨rfl, rfl, rfl, rfl, rfl⟩ rfl rfl rfl rfl rfl (by kernel_rfl) Try.func3 (by kernel_rfl)
    (of_decide_eq_true (by kernel_rfl)) (by unfold Func.isWrapper; rw [if_neg (of_decide_eq_false (by kernel_rfl))]; exact ⟨rfl, rfl⟩)
    (fun os started H enc _ => codeBack_lifted os started H enc)
#print axioms codeBack_holds
end Go.Proofs.Ytidkmoohgadjkaa
