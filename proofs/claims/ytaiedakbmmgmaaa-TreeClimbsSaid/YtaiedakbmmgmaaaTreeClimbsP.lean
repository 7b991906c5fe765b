/-
  Proved: for every input, gallipotlaw20.TreeClimbs returns true, and its arguments read behind the call as they did before.
  Conditions: none beyond those that the given row states (the row's own form; no narrowing).
-/
import Derived.Test.YtaiedakbmmgmaaaRows
import Derived.Test.YtaiedakbmmgmaaaTreeLaw
import Derived.Test.YtaiedakbmmgmaaaPredArgs
set_option linter.unusedVariables false
set_option linter.unusedSimpArgs false
set_option maxRecDepth 100000
namespace Go.Proofs.Ytaiedakbmmgmaaa
open Go E Go.ChangeShapes Go.WideShapes Go.ChangeAt Go.RowKit
theorem treeClimbs_call (x0 : List Pred) (o0 : PredsOk x0) : CallOk Try.prog 11 [sl (Pred.lrows x0)] [] (bv true) [] := by
  obtain ⟨r, s, ⟨rfl, rfl⟩, h⟩ := law_treeClimbs (X := TaskOk Try.prog) (Q := fun r s => r = bv true ∧ s = []) sound_ok o0 ⟨rfl, rfl⟩
  exact h
theorem treeClimbs_lifted (os : Os) (started : os.Started) (H : Type) (enc : TypeId × Value → H) :
    ReturnsInHanded {} Try.checked os 11 .any (Rows.treeClimbsSpec.pre6 enc Try.prog Try.f11 Rows.treeClimbsRow.domain false) (Rows.treeClimbsSpec.post enc Try.prog Try.f11 false true false false) := by
  refine returnsInHanded_of_change (C := Try.checked) ownNone started (by kernel_rfl) Try.func11
    (ChangeSpec.witness6 (enc := enc) (C := Try.checked) false ⟨#[], #[.slice none 0 0], []⟩ 8 (by kernel_rfl) (by kernel_rfl) (by kernel_rfl) (by kernel_rfl)) ?_
  intro W base args ds gs before hval0 hW hcnd _
  have hval : ∀ (j : Nat) t v, Try.f11.params[j]? = some t → args[j]? = some v → Value.okWide Try.prog W .any base t v := hval0
  have hW' : DataW.Whole enc Try.prog Try.f11.params.toList Rows.treeClimbsSpec.vars false W args.toList ds gs before := hW
  obtain ⟨p, q, hA0, hV, -, hfz, hnd⟩ := hW
  have hA : DataW.TrodAll enc Try.prog W 0 (fun _ => true) true Try.f11.params.toList args.toList ds p := hA0
  rw [Try.params11] at hA hval
  obtain ⟨v0, d0, rfl, rfl, h0⟩ := trodAll_one hA
  obtain ⟨x0, o0, e0⟩ := arg_trees (hval 0 38 v0 rfl rfl) h0
  exact law_calls (P := Try.prog) (fn := Try.f11) (tb := 4) laidOut (all_rd (by kernel_rfl)) (all_lt (by kernel_rfl)) rfl Try.underlying4 rfl hW' rfl
    (.cons e0 .nil) (treeClimbs_call x0 o0)
theorem treeClimbs_holds : Rows.TreeClimbsSaid :=
  OpenClaim.holds_of_wide 11 Try.f11 rfl rfl rfl rfl rfl rfl rfl ⟨rfl, rfl, rfl, rfl, rfl⟩ rfl rfl rfl rfl rfl (by kernel_rfl) Try.func11 (by kernel_rfl)
    (of_decide_eq_true (by kernel_rfl)) (by unfold Func.isWrapper; rw [if_neg (of_decide_eq_false (by kernel_rfl))]; exact ⟨rfl, rfl⟩)
    (fun os started H enc _ => treeClimbs_lifted os started H enc)
#print axioms treeClimbs_holds
end Go.Proofs.Ytaiedakbmmgmaaa
