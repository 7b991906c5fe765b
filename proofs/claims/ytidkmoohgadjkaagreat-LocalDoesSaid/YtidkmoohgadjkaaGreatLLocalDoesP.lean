/-
  Proved: for every input, gallipotlaw09.LocalDoes returns true, and its arguments read behind the call as they did before.
  Conditions: none beyond those that the given row states (the row's own form; no narrowing).
-/
import Derived.Test.YtidkmoohgadjkaaGreatRows
import Derived.Test.YtidkmoohgadjkaaGreatLFacts
import Derived.Test.YtidkmoohgadjkaaGreatLF
set_option linter.unusedVariables false
set_option linter.unusedSimpArgs false
set_option maxRecDepth 100000
namespace Go.Proofs.YtidkmoohgadjkaaGreat
open Go E Go.ChangeShapes Go.WideShapes Go.ChangeAt Go.RowKit
theorem localDoes_call (x0:Sit) (o0:x0.Ok) (x1:Deed9) (o1:x1.Ok):CallOk Tryz.prog 12 [x0.la,x1.la] [] (bv true) []:=by
 obtain ⟨r,s,⟨rfl,rfl⟩,h⟩:=law_localDoes (X:=TaskOk Tryz.prog) (Q:=fun r s=>r=bv true∧s=[]) sound_ok o0 o1 ⟨rfl,rfl⟩
 exact h
theorem localDoes_lifted (os:Os) (started:os.Started) (H:Type) (enc:TypeId × Value→H) :
  ReturnsInHanded {} Tryz.checked os 12 .any (Rows.localDoesSpec.pre6 enc Tryz.prog Tryz.f12 Rows.localDoesRow.domain false) (Rows.localDoesSpec.post enc Tryz.prog Tryz.f12 false true false false):=by
 refine returnsInHanded_of_change (C:=Tryz.checked) ownNone started (by kernel_rfl) Tryz.func12
  (ChangeSpec.witness6 (enc:=enc) (C:=Tryz.checked) false ⟨#[], #[.agg #[.int .i64 0,.int .i64 0,.string ⟨#[]⟩,.int .i64 0,.float .f64 0,.float .f64 0,.slice none 0 0,.slice none 0 0,.slice none 0 0,.int .i64 0,.int .i64 0,.int .i64 0,.int .i64 0,.int .i64 0,.int .i64 0,.int .i64 0,.int .i64 0,.slice none 0 0,.int .i64 0,.int .i64 0,.int .i64 0],.agg #[.int .i64 0,.string ⟨#[]⟩,.string ⟨#[]⟩,.int .i64 0,.float .f64 0,.float .f64 0,.int .i64 0,.string ⟨#[]⟩,.int .i64 0,.float .f64 0,.float .f64 0,.slice none 0 0]],[]⟩ 8 (by kernel_rfl) (by kernel_rfl) (by kernel_rfl) (by kernel_rfl)) ?_
 intro W base args ds gs before hval0 hW hcnd _
 have hval:∀ (j:Nat) t v,Tryz.f12.params[j]?=some t→args[j]?=some v→Value.okWide Tryz.prog W .any base t v:=hval0
 have hW':DataW.Whole enc Tryz.prog Tryz.f12.params.toList Rows.localDoesSpec.vars false W args.toList ds gs before:=hW
 obtain ⟨p,q,hA0,hV, -, hfz,hnd⟩:=hW
 have hA:DataW.TrodAll enc Tryz.prog W 0 (fun _=>true) true Tryz.f12.params.toList args.toList ds p:=hA0
 rw [Tryz.params12] at hA hval
 obtain ⟨v0,v1,d0,d1,p0,p1,rfl,rfl, -, h0,h1⟩:=trodAll_two hA
 obtain ⟨x0,o0,e0⟩:=arg_sit (hval 0 33 v0 rfl rfl) h0
 obtain ⟨x1,o1,e1⟩:=arg_deed9 (hval 1 101 v1 rfl rfl) h1
 exact law_calls (P:=Tryz.prog) (fn:=Tryz.f12) (tb:=4) laidOut (all_rd (by kernel_rfl)) (all_lt (by kernel_rfl)) rfl Tryz.underlying4 rfl hW' rfl
  (.cons e0 (.cons e1 .nil)) (localDoes_call x0 o0 x1 o1)
theorem localDoes_fA:factA Tryz.prog Tryz.f12 Rows.localDoesSpec Rows.localDoesRow=true:=by kernel_rfl
theorem localDoes_fB:factB Tryz.prog 12 Rows.localDoesRow=true:=by kernel_rfl
theorem localDoes_fC:factC Tryz.prog 12 Rows.localDoesRow=true:=by kernel_rfl
theorem localDoes_fD:factD Tryz.prog 12 Rows.localDoesRow=true:=by kernel_rfl
theorem localDoes_fE:factE Tryz.prog 12 Rows.localDoesRow=true:=by kernel_rfl
theorem localDoes_fF:factF Tryz.prog Tryz.f12 Rows.localDoesSpec Rows.localDoesRow=true:=by kernel_rfl
theorem localDoes_fG:factG Tryz.prog Rows.localDoesRow=true:=by kernel_rfl
theorem localDoes_fH:factH Tryz.prog Tryz.f12 Rows.localDoesSpec Rows.localDoesRow=true:=by kernel_rfl
theorem localDoes_holds:Rows.LocalDoesSaid :=
 OpenClaim.holds_of_wide 12 Tryz.f12 rfl rfl rfl rfl rfl rfl rfl ⟨rfl,rfl,rfl,rfl,rfl⟩ rfl rfl rfl rfl rfl (by kernel_rfl) Tryz.func12 (joined_of localDoes_fA localDoes_fB localDoes_fC localDoes_fD localDoes_fE localDoes_fF localDoes_fG localDoes_fH)
  (of_decide_eq_true (by kernel_rfl)) (by unfold Func.isWrapper; rw [if_neg (of_decide_eq_false (by kernel_rfl))]; exact ⟨rfl,rfl⟩)
  (fun os started H enc _=>localDoes_lifted os started H enc)
#print axioms localDoes_holds
end Go.Proofs.YtidkmoohgadjkaaGreat
