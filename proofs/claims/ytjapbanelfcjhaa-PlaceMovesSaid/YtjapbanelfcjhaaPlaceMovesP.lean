/-
  Proved: for every input, gallipotlaw01.PlaceMoves returns true, and its arguments read behind the call as they did before.
  Conditions: none beyond those that the given row states (the row's own form; no narrowing).
-/
import Derived.Test.YtjapbanelfcjhaaRows
import Derived.Test.YtjapbanelfcjhaaPlaceLaw
import Derived.Test.YtjapbanelfcjhaaFlt
set_option linter.unusedVariables false
set_option linter.unusedSimpArgs false
set_option maxRecDepth 100000
namespace Go.Proofs.Ytjapbanelfcjhaa
open Go E Go.ChangeShapes Go.WideShapes Go.ChangeAt Go.RowKit
theorem placeMoves_call (x0 : Nat) (o0 : (Lit.float .f64 x0).wf = true) (x1 : Nat) (o1 : (Lit.float .f64 x1).wf = true) (x2 : Nat) (o2 : (Lit.float .f64 x2).wf = true) (x3 : Nat) (o3 : (Lit.float .f64 x3).wf = true) (x4 : Nat) (o4 : (Lit.float .f64 x4).wf = true) (x5 : Nat) (o5 : (Lit.float .f64 x5).wf = true) : CallOk Try.prog 10 [fv x0, fv x1, fv x2, fv x3, fv x4, fv x5] [] (bv true) [] := by
  obtain ⟨r, s, ⟨rfl, rfl⟩, h⟩ := law_placeMoves (X := TaskOk Try.prog) (Q := fun r s => r = bv true ∧ s = []) sound_ok       ⟨rfl, rfl⟩
  exact h
theorem placeMoves_lifted (os : Os) (started : os.Started) (H : Type) (enc : TypeId × Value → H) :
    ReturnsInHanded {} Try.checked os 10 .any (Rows.placeMovesSpec.pre6 enc Try.prog Try.f10 Rows.placeMovesRow.domain false) (Rows.placeMovesSpec.post enc Try.prog Try.f10 false true false false) := by
  refine returnsInHanded_of_change (C := Try.checked) ownNone started (by kernel_rfl) Try.func10
    (ChangeSpec.witness6 (enc := enc) (C := Try.checked) false ⟨#[], #[.float .f64 0, .float .f64 0, .float .f64 0, .float .f64 0, .float .f64 0, .float .f64 0], []⟩ 8 (by kernel_rfl) (by kernel_rfl) (by kernel_rfl) (by kernel_rfl)) ?_
  intro W base args ds gs before hval0 hW hcnd _
  have hval : ∀ (j : Nat) t v, Try.f10.params[j]? = some t → args[j]? = some v → Value.okWide Try.prog W .any base t v := hval0
  have hW' : DataW.Whole enc Try.prog Try.f10.params.toList Rows.placeMovesSpec.vars false W args.toList ds gs before := hW
  obtain ⟨p, q, hA0, hV, -, hfz, hnd⟩ := hW
  have hA : DataW.TrodAll enc Try.prog W 0 (fun _ => true) true Try.f10.params.toList args.toList ds p := hA0
  rw [Try.params10] at hA hval
  obtain ⟨v0, v1, v2, v3, v4, v5, d0, d1, d2, d3, d4, d5, p0, p1, p2, p3, p4, p5, rfl, rfl, -, h0, h1, h2, h3, h4, h5⟩ := trodAll_six hA
  obtain ⟨x0, o0, e0⟩ := arg_flt Try.underlying34 (hval 0 34 v0 rfl rfl) h0
  obtain ⟨x1, o1, e1⟩ := arg_flt Try.underlying34 (hval 1 34 v1 rfl rfl) h1
  obtain ⟨x2, o2, e2⟩ := arg_flt Try.underlying34 (hval 2 34 v2 rfl rfl) h2
  obtain ⟨x3, o3, e3⟩ := arg_flt Try.underlying34 (hval 3 34 v3 rfl rfl) h3
  obtain ⟨x4, o4, e4⟩ := arg_flt Try.underlying34 (hval 4 34 v4 rfl rfl) h4
  obtain ⟨x5, o5, e5⟩ := arg_flt Try.underlying34 (hval 5 34 v5 rfl rfl) h5
  exact law_calls (P := Try.prog) (fn := Try.f10) (tb := 4) laidOut (all_rd (by kernel_rfl)) (all_lt (by kernel_rfl)) rfl Try.underlying4 rfl hW' rfl
    (.cons e0 (.cons e1 (.cons e2 (.cons e3 (.cons e4 (.cons e5 .nil)))))) (placeMoves_call x0 o0 x1 o1 x2 o2 x3 o3 x4 o4 x5 o5)
theorem placeMoves_holds : Rows.PlaceMovesSaid :=
  OpenClaim.holds_of_wide 10 Try.f10 rfl rfl rfl rfl rfl rfl rfl ⟨rfl, rfl, rfl, rfl, rfl⟩ rfl rfl rfl rfl rfl (by kernel_rfl) Try.func10 (by kernel_rfl)
    (of_decide_eq_true (by kernel_rfl)) (by unfold Func.isWrapper; rw [if_neg (of_decide_eq_false (by kernel_rfl))]; exact ⟨rfl, rfl⟩)
    (fun os started H enc _ => placeMoves_lifted os started H enc)
#print axioms placeMoves_holds
end Go.Proofs.Ytjapbanelfcjhaa
