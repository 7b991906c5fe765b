/-
  Proved: for every input, gallipotlaw10.RecvPlays returns true, and its arguments read behind the call as they did before.
  Conditions: none beyond those that the given row states (the row's own form; no narrowing).
-/
import Derived.Test.YtidkmoohgadjkaaGreatRows
import Derived.Test.YtidkmoohgadjkaaGreatMFacts
import Derived.Test.YtidkmoohgadjkaaGreatMF
set_option linter.unusedVariables false
set_option linter.unusedSimpArgs false
set_option maxRecDepth 100000
namespace Go.Proofs.YtidkmoohgadjkaaGreat
open Go E Go.ChangeShapes Go.WideShapes Go.ChangeAt Go.RowKit
theorem recvPlays_call (x0:Int) (o0:(Lit.int .i64 x0).wf=true) (x1:Pred) (o1:x1.Ok) (x2:List Deed10) (o2:Deeds10Ok x2):CallOk Tryz.prog 8 [iv x0,x1.la,sl (x2.map Deed10.row)] [] (bv true) []:=by
 obtain ⟨r,s,⟨rfl,rfl⟩,h⟩:=law_recvPlays (X:=TaskOk Tryz.prog) (Q:=fun r s=>r=bv true∧s=[]) sound_ok  o1 o2 ⟨rfl,rfl⟩
 exact h
theorem recvPlays_lifted (os:Os) (started:os.Started) (H:Type) (enc:TypeId × Value→H) :
  ReturnsInHanded {} Tryz.checked os 8 .any (Rows.recvPlaysSpec.pre6 enc Tryz.prog Tryz.f8 Rows.recvPlaysRow.domain false) (Rows.recvPlaysSpec.post enc Tryz.prog Tryz.f8 false true false false):=by
 refine returnsInHanded_of_change (C:=Tryz.checked) ownNone started (by kernel_rfl) Tryz.func8
  (ChangeSpec.witness6 (enc:=enc) (C:=Tryz.checked) false ⟨#[], #[.int .i64 0,.agg #[.int .i64 0,.string ⟨#[]⟩,.int .i64 0,.float .f64 0,.float .f64 0,.slice none 0 0],.slice none 0 0],[]⟩ 8 (by kernel_rfl) (by kernel_rfl) (by kernel_rfl) (by kernel_rfl)) ?_
 intro W base args ds gs before hval0 hW hcnd _
 have hval:∀ (j:Nat) t v,Tryz.f8.params[j]?=some t→args[j]?=some v→Value.okWide Tryz.prog W .any base t v:=hval0
 have hW':DataW.Whole enc Tryz.prog Tryz.f8.params.toList Rows.recvPlaysSpec.vars false W args.toList ds gs before:=hW
 obtain ⟨p,q,hA0,hV, -, hfz,hnd⟩:=hW
 have hA:DataW.TrodAll enc Tryz.prog W 0 (fun _=>true) true Tryz.f8.params.toList args.toList ds p:=hA0
 rw [Tryz.params8] at hA hval
 obtain ⟨v0,v1,v2,d0,d1,d2,p0,p1,p2,rfl,rfl, -, h0,h1,h2⟩:=trodAll_three hA
 obtain ⟨x0,o0,e0⟩:=arg_int Tryz.underlying3 (hval 0 3 v0 rfl rfl) h0
 obtain ⟨x1,o1,e1⟩:=arg_tree (hval 1 25 v1 rfl rfl) h1
 obtain ⟨x2,o2,e2⟩:=arg_deeds10 (hval 2 95 v2 rfl rfl) h2
 exact law_calls (P:=Tryz.prog) (fn:=Tryz.f8) (tb:=4) laidOut (all_rd (by kernel_rfl)) (all_lt (by kernel_rfl)) rfl Tryz.underlying4 rfl hW' rfl
  (.cons e0 (.cons e1 (.cons e2 .nil))) (recvPlays_call x0 o0 x1 o1 x2 o2)
theorem recvPlays_fA:factA Tryz.prog Tryz.f8 Rows.recvPlaysSpec Rows.recvPlaysRow=true:=by kernel_rfl
theorem recvPlays_fB:factB Tryz.prog 8 Rows.recvPlaysRow=true:=by kernel_rfl
theorem recvPlays_fC:factC Tryz.prog 8 Rows.recvPlaysRow=true:=by kernel_rfl
theorem recvPlays_fD:factD Tryz.prog 8 Rows.recvPlaysRow=true:=by kernel_rfl
theorem recvPlays_fE:factE Tryz.prog 8 Rows.recvPlaysRow=true:=by kernel_rfl
theorem recvPlays_fF:factF Tryz.prog Tryz.f8 Rows.recvPlaysSpec Rows.recvPlaysRow=true:=by kernel_rfl
theorem recvPlays_fG:factG Tryz.prog Rows.recvPlaysRow=true:=by kernel_rfl
theorem recvPlays_fH:factH Tryz.prog Tryz.f8 Rows.recvPlaysSpec Rows.recvPlaysRow=true:=by kernel_rfl
theorem recvPlays_holds:Rows.RecvPlaysSaid :=
 OpenClaim.holds_of_wide 8 Tryz.f8 rfl rfl rfl rfl rfl rfl rfl ⟨rfl,rfl,rfl,rfl,rfl⟩ rfl rfl rfl rfl rfl (by kernel_rfl) Tryz.func8 (joined_of recvPlays_fA recvPlays_fB recvPlays_fC recvPlays_fD recvPlays_fE recvPlays_fF recvPlays_fG recvPlays_fH)
  (of_decide_eq_true (by kernel_rfl)) (by unfold Func.isWrapper; rw [if_neg (of_decide_eq_false (by kernel_rfl))]; exact ⟨rfl,rfl⟩)
  (fun os started H enc _=>recvPlays_lifted os started H enc)
#print axioms recvPlays_holds
end Go.Proofs.YtidkmoohgadjkaaGreat
