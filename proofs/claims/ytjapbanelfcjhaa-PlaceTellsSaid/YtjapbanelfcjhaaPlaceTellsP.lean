/-
  Proved: for every input, gallipotlaw01.PlaceTells returns true, and its arguments read behind the call as they did before.
  Conditions: none beyond those that the given row states (the row's own form; no narrowing).
-/
import Derived.Test.YtjapbanelfcjhaaRows
import Derived.Test.YtjapbanelfcjhaaPlaceLaw
import Derived.Test.YtjapbanelfcjhaaFlt
set_option linter.unusedVariables false
set_option linter.unusedSimpArgs false
set_option maxRecDepth 100000
namespace Go.Proofs.Ytjapbanelfcjhaa
open Go E Go.ChangeShapes Go.WideShapes Go.ChangeAt Go.RowKit
theorem placeTells_call (x0 : Nat) (o0 : (Lit.float .f64 x0).wf = true) (x1 : Nat) (o1 : (Lit.float .f64 x1).wf = true) (x2 : Nat) (o2 : (Lit.float .f64 x2).wf = true) (x3 : Nat) (o3 : (Lit.float .f64 x3).wf = true) (x4 : Int) (o4 : (Lit.int .i64 x4).wf = true) : CallOk Try.prog 9 [fv x0, fv x1, fv x2, fv x3, iv x4] [] (bv true) [] := by
  obtain ⟨r, s, ⟨rfl, rfl⟩, h⟩ := law_placeTells (X := TaskOk Try.prog) (Q := fun r s => r = bv true ∧ s = []) sound_ok     (i64_of o4) ⟨rfl, rfl⟩
  exact h
theorem placeTells_lifted (os : Os) (started : os.Started) (H : Type) (enc : TypeId × Value → H) :
    ReturnsInHanded {} Try.checked os 9 .any (Rows.placeTellsSpec.pre6 enc Try.prog Try.f9 Rows.placeTellsRow.domain false) (Rows.placeTellsSpec.post enc Try.prog Try.f9 false true false false) := by
  refine returnsInHanded_of_change (C := Try.checked) ownNone started (by kernel_rfl) Try.func9
    (ChangeSpec.witness6 (enc := enc) (C := Try.checked) false ⟨#[], #[.float .f64 0, .float .f64 0, .float .f64 0, .float .f64 0, .int .i64 0], []⟩ 8 (by kernel_rfl) (by kernel_rfl) (by kernel_rfl) (by kernel_rfl)) ?_
  intro W base args ds gs before hval0 hW hcnd _
  have hval : ∀ (j : Nat) t v, Try.f9.params[j]? = some t → args[j]? = some v → Value.okWide Try.prog W .any base t v := hval0
  have hW' : DataW.Whole enc Try.prog Try.f9.params.toList Rows.placeTellsSpec.vars false W args.toList ds gs before := hW
  obtain ⟨p, q, hA0, hV, -, hfz, hnd⟩ := hW
  have hA : DataW.TrodAll enc Try.prog W 0 (fun _ => true) true Try.f9.params.toList args.toList ds p := hA0
  rw [Try.params9] at hA hval
  obtain ⟨v0, v1, v2, v3, v4, d0, d1, d2, d3, d4, p0, p1, p2, p3, p4, rfl, rfl, -, h0, h1, h2, h3, h4⟩ := trodAll_five hA
  obtain ⟨x0, o0, e0⟩ := arg_flt Try.underlying34 (hval 0 34 v0 rfl rfl) h0
  obtain ⟨x1, o1, e1⟩ := arg_flt Try.underlying34 (hval 1 34 v1 rfl rfl) h1
  obtain ⟨x2, o2, e2⟩ := arg_flt Try.underlying34 (hval 2 34 v2 rfl rfl) h2
  obtain ⟨x3, o3, e3⟩ := arg_flt Try.underlying34 (hval 3 34 v3 rfl rfl) h3
  obtain ⟨x4, o4, e4⟩ := arg_int Try.underlying3 (hval 4 3 v4 rfl rfl) h4
  exact law_calls (P := Try.prog) (fn := Try.f9) (tb := 4) laidOut (all_rd (by kernel_rfl)) (all_lt (by kernel_rfl)) rfl Try.underlying4 rfl hW' rfl
    (.cons e0 (.cons e1 (.cons e2 (.cons e3 (.cons e4 .nil))))) (placeTells_call x0 o0 x1 o1 x2 o2 x3 o3 x4 o4)
theorem placeTells_holds : Rows.PlaceTellsSaid :=
  OpenClaim.holds_of_wide 9 Try.f9 rfl rfl rfl rfl rfl rfl rfl ⟨rfl, rfl, rfl, rfl, rfl⟩ rfl rfl rfl rfl rfl (by kernel_rfl) Try.func9 (by kernel_rfl)
    (of_decide_eq_true (by kernel_rfl)) (by unfold Func.isWrapper; rw [if_neg (of_decide_eq_false (by kernel_rfl))]; exact ⟨rfl, rfl⟩)
    (fun os started H enc _ => placeTells_lifted os started H enc)
#print axioms placeTells_holds
end Go.Proofs.Ytjapbanelfcjhaa
