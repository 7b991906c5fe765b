/-
  Proved: for every input, gallipotlaw06.VecJoins returns true, and its arguments read behind the call as they did before.
  Conditions: none beyond those that the given row states (the row's own form; no narrowing).
-/
import Derived.Test.YtjapbanelfcjhaaRows
import Derived.Test.YtjapbanelfcjhaaVecJoinsW
import Derived.Test.YtjapbanelfcjhaaVecArgs
set_option linter.unusedVariables false
set_option linter.unusedSimpArgs false
set_option maxRecDepth 100000
namespace Go.Proofs.Ytjapbanelfcjhaa
open Go E Go.ChangeShapes Go.WideShapes Go.ChangeAt Go.RowKit
theorem joins_call (a b c : V8) (r n : Int) : CallOk Try.prog 7 [a.a, b.a, c.a, ver r n] [] (bv true) [] := by
  obtain ⟨r, s, ⟨rfl, rfl⟩, h⟩ := joins_ok (X := TaskOk Try.prog) (a := a) (b := b) (c := c) (r := r) (n := n) (Q := fun r s => r = bv true ∧ s = []) (sound T_ok mixedF (fun _ _ _ h => h.elim)) ⟨rfl, rfl⟩
  exact h
theorem vecJoins_lifted (os : Os) (started : os.Started) (H : Type) (enc : TypeId × Value → H) :
    ReturnsInHanded {} Try.checked os 7 .any (Rows.vecJoinsSpec.pre6 enc Try.prog Try.f7 Rows.vecJoinsRow.domain false) (Rows.vecJoinsSpec.post enc Try.prog Try.f7 false true false false) := by
  refine returnsInHanded_of_change (C := Try.checked) ownNone started (by kernel_rfl) Try.func7
    (ChangeSpec.witness6 (enc := enc) (C := Try.checked) false ⟨#[], #[.agg #[.int .i64 0, .int .i64 0, .int .i64 0, .int .i64 0, .int .i64 0, .int .i64 0, .int .i64 0, .int .i64 0], .agg #[.int .i64 0, .int .i64 0, .int .i64 0, .int .i64 0, .int .i64 0, .int .i64 0, .int .i64 0, .int .i64 0], .agg #[.int .i64 0, .int .i64 0, .int .i64 0, .int .i64 0, .int .i64 0, .int .i64 0, .int .i64 0, .int .i64 0], .agg #[.int .i64 0, .int .i64 0]], []⟩ 8 (by kernel_rfl) (by kernel_rfl) (by kernel_rfl) (by kernel_rfl)) ?_
  intro W base args ds gs before hval0 hW hcnd _
  have hval : ∀ (j : Nat) t v, Try.f7.params[j]? = some t → args[j]? = some v → Value.okWide Try.prog W .any base t v := hval0
  have hW' : DataW.Whole enc Try.prog Try.f7.params.toList Rows.vecJoinsSpec.vars false W args.toList ds gs before := hW
  obtain ⟨p, q, hA0, hV, -, hfz, hnd⟩ := hW
  have hA : DataW.TrodAll enc Try.prog W 0 (fun _ => true) true Try.f7.params.toList args.toList ds p := hA0
  rw [Try.params7] at hA hval
  obtain ⟨v0, v1, v2, v3, d0, d1, d2, d3, p0, p1, p2, p3, rfl, rfl, -, h0, h1, h2, h3⟩ := trodAll_four hA
  obtain ⟨a, ha⟩ := arg_v8 (hval 0 40 v0 rfl rfl) h0
  obtain ⟨b, hb⟩ := arg_v8 (hval 1 40 v1 rfl rfl) h1
  obtain ⟨c, hc⟩ := arg_v8 (hval 2 40 v2 rfl rfl) h2
  obtain ⟨r, n, hr⟩ := arg_ver (hval 3 73 v3 rfl rfl) h3
  exact law_calls (P := Try.prog) (fn := Try.f7) (tb := 4) laidOut (all_rd (by kernel_rfl)) (all_lt (by kernel_rfl)) rfl Try.underlying4 rfl hW' rfl
    (.cons ha (.cons hb (.cons hc (.cons hr .nil)))) (joins_call a b c r n)
theorem vecJoins_holds : Rows.VecJoinsSaid :=
  OpenClaim.holds_of_wide 7 Try.f7 rfl rfl rfl rfl rfl rfl rfl ⟨rfl, rfl, rfl, rfl, rfl⟩ rfl rfl rfl rfl rfl (by kernel_rfl) Try.func7 (by kernel_rfl)
    (of_decide_eq_true (by kernel_rfl)) (by unfold Func.isWrapper; rw [if_neg (of_decide_eq_false (by kernel_rfl))]; exact ⟨rfl, rfl⟩)
    (fun os started H enc _ => vecJoins_lifted os started H enc)
#print axioms vecJoins_holds
end Go.Proofs.Ytjapbanelfcjhaa
