/-
  Proved: for every input, gallipotlaw06.VecTells returns true, and its arguments read behind the call as they did before.
  Conditions: none beyond those that the given row states (the row's own form; no narrowing).
-/
import Derived.Test.YtjapbanelfcjhaaRows
import Derived.Test.YtjapbanelfcjhaaVecRef
import Derived.Test.YtjapbanelfcjhaaVecArgs
set_option linter.unusedVariables false
set_option linter.unusedSimpArgs false
set_option maxRecDepth 100000
namespace Go.Proofs.Ytjapbanelfcjhaa
open Go E Go.ChangeShapes Go.WideShapes Go.ChangeAt Go.RowKit
theorem eq8_refl (a : V8) : eq8 a a = true := eq8_iff.2 ⟨rfl, rfl, rfl, rfl, rfl, rfl, rfl, rfl⟩
section
variable {X : Task → Prop} (hX : Closed X) {Q : A → List Blk → Prop}
include hX
theorem refMax_known {u v m : V8} (h : maxV u v = m) (hQ : Q m.a []) : X (.call 37 [u.a, v.a] [] Q) := refMax_ok hX (h ▸ hQ)
theorem withVec_known {u m : V8} {r c : Int} (h : withV u r c = m) (hQ : Q m.a []) : X (.call 35 [u.a, ver r c] [] Q) := withVec_ok hX (h ▸ hQ)
theorem tells_ok {a b : V8} {r n : Int} (hQ : Q (bv true) []) : X (.call 6 [a.a, b.a, ver r n] [] Q) := by
  obtain ⟨m, hm⟩ : ∃ m, maxV a b = m := ⟨_, rfl⟩
  obtain ⟨w, hw⟩ : ∃ m, withV a r n = m := ⟨_, rfl⟩
  have e1 := eq8_refl m
  have e2 := eq8_refl w
  refine call_intro hX Try.func6 rfl rfl ?_
  repeat' ((conv => whnf); first
    | exact hQ
    | refine ⟨by kernel_rfl, ?_⟩
    | refine up_ok hX ?_ | refine max_known hX hm ?_ | refine refMax_known hX hm ?_ | refine with_known hX hw ?_ | refine withVec_known hX hw ?_
    | refine has_ok hX ?_ | refine hasVec_ok hX ?_ | refine in_ok hX ?_ | refine inVec_ok hX ?_ | refine may_ok hX ?_ | refine mayVec_ok hX ?_
    | exact Qb hQ (beq_self _).symm
    | refine bct (beq_self _) ?_ | refine bct (by assumption) ?_ | refine bcf (by assumption) ?_ | refine bc (fun _ => ?_) (fun _ => ?_))
end
theorem tells_call (a b : V8) (r n : Int) : CallOk Try.prog 6 [a.a, b.a, ver r n] [] (bv true) [] := by
  obtain ⟨r, s, ⟨rfl, rfl⟩, h⟩ := tells_ok (X := TaskOk Try.prog) (a := a) (b := b) (r := r) (n := n) (Q := fun r s => r = bv true ∧ s = []) (sound T_ok mixedF (fun _ _ _ h => h.elim)) ⟨rfl, rfl⟩
  exact h
theorem vecTells_lifted (os : Os) (started : os.Started) (H : Type) (enc : TypeId × Value → H) :
    ReturnsInHanded {} Try.checked os 6 .any (Rows.vecTellsSpec.pre6 enc Try.prog Try.f6 Rows.vecTellsRow.domain false) (Rows.vecTellsSpec.post enc Try.prog Try.f6 false true false false) := by
  refine returnsInHanded_of_change (C := Try.checked) ownNone started (by kernel_rfl) Try.func6
    (ChangeSpec.witness6 (enc := enc) (C := Try.checked) false ⟨#[], #[.agg #[.int .i64 0, .int .i64 0, .int .i64 0, .int .i64 0, .int .i64 0, .int .i64 0, .int .i64 0, .int .i64 0], .agg #[.int .i64 0, .int .i64 0, .int .i64 0, .int .i64 0, .int .i64 0, .int .i64 0, .int .i64 0, .int .i64 0], .agg #[.int .i64 0, .int .i64 0]], []⟩ 8 (by kernel_rfl) (by kernel_rfl) (by kernel_rfl) (by kernel_rfl)) ?_
  intro W base args ds gs before hval0 hW hcnd _
  have hval : ∀ (j : Nat) t v, Try.f6.params[j]? = some t → args[j]? = some v → Value.okWide Try.prog W .any base t v := hval0
  have hW' : DataW.Whole enc Try.prog Try.f6.params.toList Rows.vecTellsSpec.vars false W args.toList ds gs before := hW
  obtain ⟨p, q, hA0, hV, -, hfz, hnd⟩ := hW
  have hA : DataW.TrodAll enc Try.prog W 0 (fun _ => true) true Try.f6.params.toList args.toList ds p := hA0
  rw [Try.params6] at hA hval
  obtain ⟨v0, v1, v2, d0, d1, d2, p0, p1, p2, rfl, rfl, -, h0, h1, h2⟩ := trodAll_three hA
  obtain ⟨a, ha⟩ := arg_v8 (hval 0 40 v0 rfl rfl) h0
  obtain ⟨b, hb⟩ := arg_v8 (hval 1 40 v1 rfl rfl) h1
  obtain ⟨r, n, hr⟩ := arg_ver (hval 2 73 v2 rfl rfl) h2
  exact law_calls (P := Try.prog) (fn := Try.f6) (tb := 4) laidOut (all_rd (by kernel_rfl)) (all_lt (by kernel_rfl)) rfl Try.underlying4 rfl hW' rfl
    (.cons ha (.cons hb (.cons hr .nil))) (tells_call a b r n)
theorem vecTells_holds : Rows.VecTellsSaid :=
  OpenClaim.holds_of_wide 6 Try.f6 rfl rfl rfl rfl rfl rfl rfl ⟨rfl, rfl, rfl, rfl, rfl⟩ rfl rfl rfl rfl rfl (by kernel_rfl) Try.func6 (by kernel_rfl)
    (of_decide_eq_true (by kernel_rfl)) (by unfold Func.isWrapper; rw [if_neg (of_decide_eq_false (by kernel_rfl))]; exact ⟨rfl, rfl⟩)
    (fun os started H enc _ => vecTells_lifted os started H enc)
#print axioms vecTells_holds
end Go.Proofs.Ytjapbanelfcjhaa
