/-
  Proved: for every input, gallipotlaw07.KnowKeeps returns true, and its arguments read behind the call as they did before.
  Conditions: none beyond those that the given row states (the row's own form; no narrowing).
-/
import Derived.Test.YtijkfjahgijphaaRows
import Derived.Test.YtijkfjahgijphaaKKnowLaw
set_option linter.unusedVariables false
set_option linter.unusedSimpArgs false
set_option maxRecDepth 100000
namespace Go.Proofs.Ytijkfjahgijphaa
open Go E Go.ChangeShapes Go.WideShapes Go.ChangeAt Go.RowKit
theorem knowKeeps_call (x0 : Know) (o0 : IdsOk x0) (x1 : Know) (o1 : IdsOk x1) (x2 : ByteArray) (o2 : x2.size ≤ maxLen) (x3 : Ver) (o3 : x3.Ok) (x4 : ByteArray) (o4 : x4.size ≤ maxLen) (x5 : Ver) (o5 : x5.Ok) : CallOk Try.prog 12 [x0.la, x1.la, sv x2, x3.la, sv x4, x5.la] [] (bv true) [] := by
  obtain ⟨r, s, ⟨rfl, rfl⟩, h⟩ := law_knowKeeps (X := TaskOk Try.prog) (Q := fun r s => r = bv true ∧ s = []) sound_ok o0 o1 (Nat.le_trans o2 (by decide)) o3 (Nat.le_trans o4 (by decide)) o5 ⟨rfl, rfl⟩
  exact h
theorem knowKeeps_lifted (os : Os) (started : os.Started) (H : Type) (enc : TypeId × Value → H) :
    ReturnsInHanded {} Try.checked os 12 .any (Rows.knowKeepsSpec.pre6 enc Try.prog Try.f12 Rows.knowKeepsRow.domain false) (Rows.knowKeepsSpec.post enc Try.prog Try.f12 false true false false) := by
  refine returnsInHanded_of_change (C := Try.checked) ownNone started (by kernel_rfl) Try.func12
    (ChangeSpec.witness6 (enc := enc) (C := Try.checked) false ⟨#[], #[.agg #[.int .i64 0, .int .i64 0, .int .i64 0, .int .i64 0, .int .i64 0, .int .i64 0, .int .i64 0, .int .i64 0, .slice none 0 0], .agg #[.int .i64 0, .int .i64 0, .int .i64 0, .int .i64 0, .int .i64 0, .int .i64 0, .int .i64 0, .int .i64 0, .slice none 0 0], .string ⟨#[]⟩, .agg #[.int .i64 0, .int .i64 0], .string ⟨#[]⟩, .agg #[.int .i64 0, .int .i64 0]], []⟩ 8 (by kernel_rfl) (by kernel_rfl) (by kernel_rfl) (by kernel_rfl)) ?_
  intro W base args ds gs before hval0 hW hcnd _
  have hval : ∀ (j : Nat) t v, Try.f12.params[j]? = some t → args[j]? = some v → Value.okWide Try.prog W .any base t v := hval0
  have hW' : DataW.Whole enc Try.prog Try.f12.params.toList Rows.knowKeepsSpec.vars false W args.toList ds gs before := hW
  obtain ⟨p, q, hA0, hV, -, hfz, hnd⟩ := hW
  have hA : DataW.TrodAll enc Try.prog W 0 (fun _ => true) true Try.f12.params.toList args.toList ds p := hA0
  rw [Try.params12] at hA hval
  obtain ⟨v0, v1, v2, v3, v4, v5, d0, d1, d2, d3, d4, d5, p0, p1, p2, p3, p4, p5, rfl, rfl, -, h0, h1, h2, h3, h4, h5⟩ := trodAll_six hA
  obtain ⟨x0, o0, e0⟩ := arg_know (hval 0 31 v0 rfl rfl) h0
  obtain ⟨x1, o1, e1⟩ := arg_know (hval 1 31 v1 rfl rfl) h1
  obtain ⟨x2, o2, e2⟩ := arg_str Try.underlying9 (hval 2 9 v2 rfl rfl) h2
  obtain ⟨x3, o3, e3⟩ := arg_ver (hval 3 62 v3 rfl rfl) h3
  obtain ⟨x4, o4, e4⟩ := arg_str Try.underlying9 (hval 4 9 v4 rfl rfl) h4
  obtain ⟨x5, o5, e5⟩ := arg_ver (hval 5 62 v5 rfl rfl) h5
  exact law_calls (P := Try.prog) (fn := Try.f12) (tb := 4) laidOut (all_rd (by kernel_rfl)) (all_lt (by kernel_rfl)) rfl Try.underlying4 rfl hW' rfl
    (.cons e0 (.cons e1 (.cons e2 (.cons e3 (.cons e4 (.cons e5 .nil)))))) (knowKeeps_call x0 o0 x1 o1 x2 o2 x3 o3 x4 o4 x5 o5)
theorem knowKeeps_holds : Rows.KnowKeepsSaid :=
  OpenClaim.holds_of_wide 12 Try.f12 rfl rfl rfl rfl rfl rfl rfl ⟨rfl, rfl, rfl, rfl, rfl⟩ rfl rfl rfl rfl rfl (by kernel_rfl) Try.func12 (by kernel_rfl)
    (of_decide_eq_true (by kernel_rfl)) (by unfold Func.isWrapper; rw [if_neg (of_decide_eq_false (by kernel_rfl))]; exact ⟨rfl, rfl⟩)
    (fun os started H enc _ => knowKeeps_lifted os started H enc)
#print axioms knowKeeps_holds
end Go.Proofs.Ytijkfjahgijphaa
