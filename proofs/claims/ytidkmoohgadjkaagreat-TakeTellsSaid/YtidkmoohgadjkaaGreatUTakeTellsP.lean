/-
  Proved: for every input, gallipotlaw13.TakeTells returns true, and its arguments read behind the call as they did before.
  Conditions: none beyond those that the given row states (the row's own form; no narrowing).
-/
import Derived.Test.YtidkmoohgadjkaaGreatRows
import Derived.Test.YtidkmoohgadjkaaGreatUFacts
import Derived.Test.YtidkmoohgadjkaaGreatUG
set_option linter.unusedVariables false
set_option linter.unusedSimpArgs false
set_option maxRecDepth 100000
namespace Go.Proofs.YtidkmoohgadjkaaGreat
open Go E Go.ChangeShapes Go.WideShapes Go.ChangeAt Go.RowKit
theorem takeTells_call (x0:Sit) (o0:x0.Ok) (x1:Talk) (o1:x1.Ok) (x2:Note) (o2:x2.Ok):CallOk Tryz.prog 10 [x0.la,x1.la,x2.la] [] (bv true) []:=by
 obtain ⟨r,s,⟨rfl,rfl⟩,h⟩:=law_takeTells (X:=TaskOk Tryz.prog) (Q:=fun r s=>r=bv true∧s=[]) sound_ok o0 o1 o2 ⟨rfl,rfl⟩
 exact h
theorem takeTells_lifted (os:Os) (started:os.Started) (H:Type) (enc:TypeId × Value→H) :
  ReturnsInHanded {} Tryz.checked os 10 .any (Rows.takeTellsSpec.pre6 enc Tryz.prog Tryz.f10 Rows.takeTellsRow.domain false) (Rows.takeTellsSpec.post enc Tryz.prog Tryz.f10 false true false false):=by
 refine returnsInHanded_of_change (C:=Tryz.checked) ownNone started (by kernel_rfl) Tryz.func10
  (ChangeSpec.witness6 (enc:=enc) (C:=Tryz.checked) false ⟨#[], #[.agg #[.int .i64 0,.int .i64 0,.string ⟨#[]⟩,.int .i64 0,.float .f64 0,.float .f64 0,.slice none 0 0,.slice none 0 0,.slice none 0 0,.int .i64 0,.int .i64 0,.int .i64 0,.int .i64 0,.int .i64 0,.int .i64 0,.int .i64 0,.int .i64 0,.slice none 0 0,.int .i64 0,.int .i64 0,.int .i64 0],.agg #[.int .i64 0,.int .i64 0,.int .i64 0,.int .i64 0,.slice none 0 0,.bool false,.bool false,.bool false,.int .i64 0,.int .i64 0,.int .i64 0,.int .i64 0,.int .i64 0,.int .i64 0,.int .i64 0,.int .i64 0,.int .i64 0,.slice none 0 0,.slice none 0 0],.agg #[.int .i64 0,.int .i64 0,.int .i64 0,.int .i64 0,.int .i64 0,.int .i64 0,.string ⟨#[]⟩,.int .i64 0,.float .f64 0,.float .f64 0,.slice none 0 0,.int .i64 0,.int .i64 0,.int .i64 0,.int .i64 0,.int .i64 0,.int .i64 0,.int .i64 0,.int .i64 0,.slice none 0 0,.slice none 0 0,.int .i64 0,.slice none 0 0,.bool false]],[]⟩ 8 (by kernel_rfl) (by kernel_rfl) (by kernel_rfl) (by kernel_rfl)) ?_
 intro W base args ds gs before hval0 hW hcnd _
 have hval:∀ (j:Nat) t v,Tryz.f10.params[j]?=some t→args[j]?=some v→Value.okWide Tryz.prog W .any base t v:=hval0
 have hW':DataW.Whole enc Tryz.prog Tryz.f10.params.toList Rows.takeTellsSpec.vars false W args.toList ds gs before:=hW
 obtain ⟨p,q,hA0,hV, -, hfz,hnd⟩:=hW
 have hA:DataW.TrodAll enc Tryz.prog W 0 (fun _=>true) true Tryz.f10.params.toList args.toList ds p:=hA0
 rw [Tryz.params10] at hA hval
 obtain ⟨v0,v1,v2,d0,d1,d2,p0,p1,p2,rfl,rfl, -, h0,h1,h2⟩:=trodAll_three hA
 obtain ⟨x0,o0,e0⟩:=arg_sit (hval 0 33 v0 rfl rfl) h0
 obtain ⟨x1,o1,e1⟩:=arg_talk (hval 1 110 v1 rfl rfl) h1
 obtain ⟨x2,o2,e2⟩:=arg_note (hval 2 37 v2 rfl rfl) h2
 exact law_calls (P:=Tryz.prog) (fn:=Tryz.f10) (tb:=4) laidOut (all_rd (by kernel_rfl)) (all_lt (by kernel_rfl)) rfl Tryz.underlying4 rfl hW' rfl
  (.cons e0 (.cons e1 (.cons e2 .nil))) (takeTells_call x0 o0 x1 o1 x2 o2)
theorem takeTells_fA:factA Tryz.prog Tryz.f10 Rows.takeTellsSpec Rows.takeTellsRow=true:=by kernel_rfl
theorem takeTells_fB:factB Tryz.prog 10 Rows.takeTellsRow=true:=by kernel_rfl
theorem takeTells_fC:factC Tryz.prog 10 Rows.takeTellsRow=true:=by kernel_rfl
theorem takeTells_fD:factD Tryz.prog 10 Rows.takeTellsRow=true:=by kernel_rfl
theorem takeTells_fE:factE Tryz.prog 10 Rows.takeTellsRow=true:=by kernel_rfl
theorem takeTells_fF:factF Tryz.prog Tryz.f10 Rows.takeTellsSpec Rows.takeTellsRow=true:=by kernel_rfl
theorem takeTells_fG:factG Tryz.prog Rows.takeTellsRow=true:=by kernel_rfl
theorem takeTells_fH:factH Tryz.prog Tryz.f10 Rows.takeTellsSpec Rows.takeTellsRow=true:=by kernel_rfl
theorem takeTells_holds:Rows.TakeTellsSaid :=
 OpenClaim.holds_of_wide 10 Tryz.f10 rfl rfl rfl rfl rfl rfl rfl ⟨rfl,rfl,rfl,rfl,rfl⟩ rfl rfl rfl rfl rfl (by kernel_rfl) Tryz.func10 (joined_of takeTells_fA takeTells_fB takeTells_fC takeTells_fD takeTells_fE takeTells_fF takeTells_fG takeTells_fH)
  (of_decide_eq_true (by kernel_rfl)) (by unfold Func.isWrapper; rw [if_neg (of_decide_eq_false (by kernel_rfl))]; exact ⟨rfl,rfl⟩)
  (fun os started H enc _=>takeTells_lifted os started H enc)
#print axioms takeTells_holds
end Go.Proofs.YtidkmoohgadjkaaGreat
