/-
  Proved: for every input, gallipotlaw13.TakePlays returns true, and its arguments read behind the call as they did before.
  Conditions: none beyond those that the given row states (the row's own form; no narrowing).
-/
import Derived.Test.YtidkmoohgadjkaaGreatRows
import Derived.Test.YtidkmoohgadjkaaGreatVFacts
import Derived.Test.YtidkmoohgadjkaaGreatVG
set_option linter.unusedVariables false
set_option linter.unusedSimpArgs false
set_option maxRecDepth 100000
namespace Go.Proofs.YtidkmoohgadjkaaGreat
open Go E Go.ChangeShapes Go.WideShapes Go.ChangeAt Go.RowKit
theorem takePlays_call (x0:Sit) (o0:x0.Ok) (x1:Sit) (o1:x1.Ok) (x2:List Int) (o2:qwN x2):qcS Tryz.prog 11 [x0.la,x1.la,sl (x2.map irw)] [] (bv true) []:=by
 obtain ⟨r,s,⟨rfl,rfl⟩,h⟩:=qlx (X:=qfS Tryz.prog) (Q:=fun r s=>r=bv true∧s=[]) qvE o0 o1  ⟨rfl,rfl⟩
 exact h
theorem takePlays_lifted (os:Os) (started:os.Started) (H:Type) (enc:TypeId × Value→H) :
  ReturnsInHanded {} Tryz.checked os 11 .any (Rows.takePlaysSpec.pre6 enc Tryz.prog Tryz.f11 Rows.takePlaysRow.domain false) (Rows.takePlaysSpec.post enc Tryz.prog Tryz.f11 false true false false):=by
 refine returnsInHanded_of_change (C:=Tryz.checked) qyg started (by kernel_rfl) Tryz.func11
  (ChangeSpec.witness6 (enc:=enc) (C:=Tryz.checked) false ⟨#[], #[.agg #[.int .i64 0,.int .i64 0,.string ⟨#[]⟩,.int .i64 0,.float .f64 0,.float .f64 0,.slice none 0 0,.slice none 0 0,.slice none 0 0,.int .i64 0,.int .i64 0,.int .i64 0,.int .i64 0,.int .i64 0,.int .i64 0,.int .i64 0,.int .i64 0,.slice none 0 0,.int .i64 0,.int .i64 0,.int .i64 0],.agg #[.int .i64 0,.int .i64 0,.string ⟨#[]⟩,.int .i64 0,.float .f64 0,.float .f64 0,.slice none 0 0,.slice none 0 0,.slice none 0 0,.int .i64 0,.int .i64 0,.int .i64 0,.int .i64 0,.int .i64 0,.int .i64 0,.int .i64 0,.int .i64 0,.slice none 0 0,.int .i64 0,.int .i64 0,.int .i64 0],.slice none 0 0],[]⟩ 8 (by kernel_rfl) (by kernel_rfl) (by kernel_rfl) (by kernel_rfl)) ?_
 intro W base args ds gs before hval0 hW hcnd _
 have hval:∀ (j:Nat) t v,Tryz.f11.params[j]?=some t→args[j]?=some v→Value.okWide Tryz.prog W .any base t v:=hval0
 have hW':DataW.Whole enc Tryz.prog Tryz.f11.params.toList Rows.takePlaysSpec.vars false W args.toList ds gs before:=hW
 obtain ⟨p,q,hA0,hV, -, hfz,hnd⟩:=hW
 have hA:DataW.TrodAll enc Tryz.prog W 0 (fun _=>true) true Tryz.f11.params.toList args.toList ds p:=hA0
 rw [Tryz.params11] at hA hval
 obtain ⟨v0,v1,v2,d0,d1,d2,p0,p1,p2,rfl,rfl, -, h0,h1,h2⟩:=trodAll_three hA
 obtain ⟨x0,o0,e0⟩:=qt7 (hval 0 33 v0 rfl rfl) h0
 obtain ⟨x1,o1,e1⟩:=qt7 (hval 1 33 v1 rfl rfl) h1
 obtain ⟨x2,o2,e2⟩:=qv1 (hval 2 59 v2 rfl rfl) h2
 exact qr1 (P:=Tryz.prog) (fn:=Tryz.f11) (tb:=4) qyh (qAh (by kernel_rfl)) (qAg (by kernel_rfl)) rfl Tryz.underlying4 rfl hW' rfl
  (.cons e0 (.cons e1 (.cons e2 .nil))) (takePlays_call x0 o0 x1 o1 x2 o2)
theorem takePlays_fA:qw1 Tryz.prog Tryz.f11 Rows.takePlaysSpec Rows.takePlaysRow=true:=by kernel_rfl
theorem takePlays_fB:qw2 Tryz.prog 11 Rows.takePlaysRow=true:=by kernel_rfl
theorem takePlays_fC:qw3 Tryz.prog 11 Rows.takePlaysRow=true:=by kernel_rfl
theorem takePlays_fD:qw4 Tryz.prog 11 Rows.takePlaysRow=true:=by kernel_rfl
theorem takePlays_fE:qw5 Tryz.prog 11 Rows.takePlaysRow=true:=by kernel_rfl
theorem takePlays_fF:qw6 Tryz.prog Tryz.f11 Rows.takePlaysSpec Rows.takePlaysRow=true:=by kernel_rfl
theorem takePlays_fG:qw7 Tryz.prog Rows.takePlaysRow=true:=by kernel_rfl
theorem takePlays_fH:qw8 Tryz.prog Tryz.f11 Rows.takePlaysSpec Rows.takePlaysRow=true:=by kernel_rfl
theorem takePlays_holds:Rows.TakePlaysSaid :=
 OpenClaim.holds_of_wide 11 Tryz.f11 rfl rfl rfl rfl rfl rfl rfl ⟨rfl,rfl,rfl,rfl,rfl⟩ rfl rfl rfl rfl rfl (by kernel_rfl) Tryz.func11 (qq1 takePlays_fA takePlays_fB takePlays_fC takePlays_fD takePlays_fE takePlays_fF takePlays_fG takePlays_fH)
  (of_decide_eq_true (by kernel_rfl)) (by unfold Func.isWrapper; rw [if_neg (of_decide_eq_false (by kernel_rfl))]; exact ⟨rfl,rfl⟩)
  (fun os started H enc _=>takePlays_lifted os started H enc)
#print axioms takePlays_holds
end Go.Proofs.YtidkmoohgadjkaaGreat
