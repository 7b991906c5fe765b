/-
  Proved: for every input, gallipotlaw12.ServeNew returns true, and its arguments read behind the call as they did before.
  Conditions: none beyond those that the given row states (the row's own form; no narrowing).
-/
import Derived.Test.YtidkmoohgadjkaaGreatRows
import Derived.Test.YtidkmoohgadjkaaGreatRFacts
import Derived.Test.YtidkmoohgadjkaaGreatRF
set_option linter.unusedVariables false
set_option linter.unusedSimpArgs false
set_option maxRecDepth 100000
namespace Go.Proofs.YtidkmoohgadjkaaGreat
open Go E Go.ChangeShapes Go.WideShapes Go.ChangeAt Go.RowKit
theorem serveNew_call (x0:Sit) (o0:x0.Ok) (x1:Note) (o1:x1.Ok) (x2:Int) (o2:(Lit.int .i64 x2).wf=true):CallOk Tryz.prog 5 [x0.la,x1.la,iv x2] [] (bv true) []:=by
 obtain ⟨r,s,⟨rfl,rfl⟩,h⟩:=law_serveNew (X:=TaskOk Tryz.prog) (Q:=fun r s=>r=bv true∧s=[]) sound_ok o0 o1  ⟨rfl,rfl⟩
 exact h
theorem serveNew_lifted (os:Os) (started:os.Started) (H:Type) (enc:TypeId × Value→H) :
  ReturnsInHanded {} Tryz.checked os 5 .any (Rows.serveNewSpec.pre6 enc Tryz.prog Tryz.f5 Rows.serveNewRow.domain false) (Rows.serveNewSpec.post enc Tryz.prog Tryz.f5 false true false false):=by
 refine returnsInHanded_of_change (C:=Tryz.checked) ownNone started (by kernel_rfl) Tryz.func5
  (ChangeSpec.witness6 (enc:=enc) (C:=Tryz.checked) false ⟨#[], #[.agg #[.int .i64 0,.int .i64 0,.string ⟨#[]⟩,.int .i64 0,.float .f64 0,.float .f64 0,.slice none 0 0,.slice none 0 0,.slice none 0 0,.int .i64 0,.int .i64 0,.int .i64 0,.int .i64 0,.int .i64 0,.int .i64 0,.int .i64 0,.int .i64 0,.slice none 0 0,.int .i64 0,.int .i64 0,.int .i64 0],.agg #[.int .i64 0,.int .i64 0,.int .i64 0,.int .i64 0,.int .i64 0,.int .i64 0,.string ⟨#[]⟩,.int .i64 0,.float .f64 0,.float .f64 0,.slice none 0 0,.int .i64 0,.int .i64 0,.int .i64 0,.int .i64 0,.int .i64 0,.int .i64 0,.int .i64 0,.int .i64 0,.slice none 0 0,.slice none 0 0,.int .i64 0,.slice none 0 0,.bool false],.int .i64 0],[]⟩ 8 (by kernel_rfl) (by kernel_rfl) (by kernel_rfl) (by kernel_rfl)) ?_
 intro W base args ds gs before hval0 hW hcnd _
 have hval:∀ (j:Nat) t v,Tryz.f5.params[j]?=some t→args[j]?=some v→Value.okWide Tryz.prog W .any base t v:=hval0
 have hW':DataW.Whole enc Tryz.prog Tryz.f5.params.toList Rows.serveNewSpec.vars false W args.toList ds gs before:=hW
 obtain ⟨p,q,hA0,hV, -, hfz,hnd⟩:=hW
 have hA:DataW.TrodAll enc Tryz.prog W 0 (fun _=>true) true Tryz.f5.params.toList args.toList ds p:=hA0
 rw [Tryz.params5] at hA hval
 obtain ⟨v0,v1,v2,d0,d1,d2,p0,p1,p2,rfl,rfl, -, h0,h1,h2⟩:=trodAll_three hA
 obtain ⟨x0,o0,e0⟩:=arg_sit (hval 0 33 v0 rfl rfl) h0
 obtain ⟨x1,o1,e1⟩:=arg_note (hval 1 37 v1 rfl rfl) h1
 obtain ⟨x2,o2,e2⟩:=arg_int Tryz.underlying3 (hval 2 3 v2 rfl rfl) h2
 exact law_calls (P:=Tryz.prog) (fn:=Tryz.f5) (tb:=4) laidOut (all_rd (by kernel_rfl)) (all_lt (by kernel_rfl)) rfl Tryz.underlying4 rfl hW' rfl
  (.cons e0 (.cons e1 (.cons e2 .nil))) (serveNew_call x0 o0 x1 o1 x2 o2)
theorem serveNew_fA:factA Tryz.prog Tryz.f5 Rows.serveNewSpec Rows.serveNewRow=true:=by kernel_rfl
theorem serveNew_fB:factB Tryz.prog 5 Rows.serveNewRow=true:=by kernel_rfl
theorem serveNew_fC:factC Tryz.prog 5 Rows.serveNewRow=true:=by kernel_rfl
theorem serveNew_fD:factD Tryz.prog 5 Rows.serveNewRow=true:=by kernel_rfl
theorem serveNew_fE:factE Tryz.prog 5 Rows.serveNewRow=true:=by kernel_rfl
theorem serveNew_fF:factF Tryz.prog Tryz.f5 Rows.serveNewSpec Rows.serveNewRow=true:=by kernel_rfl
theorem serveNew_fG:factG Tryz.prog Rows.serveNewRow=true:=by kernel_rfl
theorem serveNew_fH:factH Tryz.prog Tryz.f5 Rows.serveNewSpec Rows.serveNewRow=true:=by kernel_rfl
theorem serveNew_holds:Rows.ServeNewSaid :=
 OpenClaim.holds_of_wide 5 Tryz.f5 rfl rfl rfl rfl rfl rfl rfl ⟨rfl,rfl,rfl,rfl,rfl⟩ rfl rfl rfl rfl rfl (by kernel_rfl) Tryz.func5 (joined_of serveNew_fA serveNew_fB serveNew_fC serveNew_fD serveNew_fE serveNew_fF serveNew_fG serveNew_fH)
  (of_decide_eq_true (by kernel_rfl)) (by unfold Func.isWrapper; rw [if_neg (of_decide_eq_false (by kernel_rfl))]; exact ⟨rfl,rfl⟩)
  (fun os started H enc _=>serveNew_lifted os started H enc)
#print axioms serveNew_holds
end Go.Proofs.YtidkmoohgadjkaaGreat
