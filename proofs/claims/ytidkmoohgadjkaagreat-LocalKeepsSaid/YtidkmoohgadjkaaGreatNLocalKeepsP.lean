/-
  Proved: for every input, gallipotlaw09.LocalKeeps returns true, and its arguments read behind the call as they did before.
  Conditions: none beyond those that the given row states (the row's own form; no narrowing).
-/
import Derived.Test.YtidkmoohgadjkaaGreatRows
import Derived.Test.YtidkmoohgadjkaaGreatNFacts
import Derived.Test.YtidkmoohgadjkaaGreatNF
set_option linter.unusedVariables false
set_option linter.unusedSimpArgs false
set_option maxRecDepth 100000
namespace Go.Proofs.YtidkmoohgadjkaaGreat
open Go E Go.ChangeShapes Go.WideShapes Go.ChangeAt Go.RowKit
theorem localKeeps_call (x0:Sit) (o0:x0.Ok) (x1:Deed9) (o1:x1.Ok) (x2:ByteArray) (o2:x2.size≤maxLen):CallOk Tryz.prog 14 [x0.la,x1.la,sv x2] [] (bv true) []:=by
 obtain ⟨r,s,⟨rfl,rfl⟩,h⟩:=law_localKeeps (X:=TaskOk Tryz.prog) (Q:=fun r s=>r=bv true∧s=[]) sound_ok o0 o1 (Nat.le_trans o2 (by decide)) ⟨rfl,rfl⟩
 exact h
theorem localKeeps_lifted (os:Os) (started:os.Started) (H:Type) (enc:TypeId × Value→H) :
  ReturnsInHanded {} Tryz.checked os 14 .any (Rows.localKeepsSpec.pre6 enc Tryz.prog Tryz.f14 Rows.localKeepsRow.domain false) (Rows.localKeepsSpec.post enc Tryz.prog Tryz.f14 false true false false):=by
 refine returnsInHanded_of_change (C:=Tryz.checked) ownNone started (by kernel_rfl) Tryz.func14
  (ChangeSpec.witness6 (enc:=enc) (C:=Tryz.checked) false ⟨#[], #[.agg #[.int .i64 0,.int .i64 0,.string ⟨#[]⟩,.int .i64 0,.float .f64 0,.float .f64 0,.slice none 0 0,.slice none 0 0,.slice none 0 0,.int .i64 0,.int .i64 0,.int .i64 0,.int .i64 0,.int .i64 0,.int .i64 0,.int .i64 0,.int .i64 0,.slice none 0 0,.int .i64 0,.int .i64 0,.int .i64 0],.agg #[.int .i64 0,.string ⟨#[]⟩,.string ⟨#[]⟩,.int .i64 0,.float .f64 0,.float .f64 0,.int .i64 0,.string ⟨#[]⟩,.int .i64 0,.float .f64 0,.float .f64 0,.slice none 0 0],.string ⟨#[]⟩],[]⟩ 8 (by kernel_rfl) (by kernel_rfl) (by kernel_rfl) (by kernel_rfl)) ?_
 intro W base args ds gs before hval0 hW hcnd _
 have hval:∀ (j:Nat) t v,Tryz.f14.params[j]?=some t→args[j]?=some v→Value.okWide Tryz.prog W .any base t v:=hval0
 have hW':DataW.Whole enc Tryz.prog Tryz.f14.params.toList Rows.localKeepsSpec.vars false W args.toList ds gs before:=hW
 obtain ⟨p,q,hA0,hV, -, hfz,hnd⟩:=hW
 have hA:DataW.TrodAll enc Tryz.prog W 0 (fun _=>true) true Tryz.f14.params.toList args.toList ds p:=hA0
 rw [Tryz.params14] at hA hval
 obtain ⟨v0,v1,v2,d0,d1,d2,p0,p1,p2,rfl,rfl, -, h0,h1,h2⟩:=trodAll_three hA
 obtain ⟨x0,o0,e0⟩:=arg_sit (hval 0 33 v0 rfl rfl) h0
 obtain ⟨x1,o1,e1⟩:=arg_deed9 (hval 1 101 v1 rfl rfl) h1
 obtain ⟨x2,o2,e2⟩:=arg_str Tryz.underlying9 (hval 2 9 v2 rfl rfl) h2
 exact law_calls (P:=Tryz.prog) (fn:=Tryz.f14) (tb:=4) laidOut (all_rd (by kernel_rfl)) (all_lt (by kernel_rfl)) rfl Tryz.underlying4 rfl hW' rfl
  (.cons e0 (.cons e1 (.cons e2 .nil))) (localKeeps_call x0 o0 x1 o1 x2 o2)
theorem localKeeps_fA:factA Tryz.prog Tryz.f14 Rows.localKeepsSpec Rows.localKeepsRow=true:=by kernel_rfl
theorem localKeeps_fB:factB Tryz.prog 14 Rows.localKeepsRow=true:=by kernel_rfl
theorem localKeeps_fC:factC Tryz.prog 14 Rows.localKeepsRow=true:=by kernel_rfl
theorem localKeeps_fD:factD Tryz.prog 14 Rows.localKeepsRow=true:=by kernel_rfl
theorem localKeeps_fE:factE Tryz.prog 14 Rows.localKeepsRow=true:=by kernel_rfl
theorem localKeeps_fF:factF Tryz.prog Tryz.f14 Rows.localKeepsSpec Rows.localKeepsRow=true:=by kernel_rfl
theorem localKeeps_fG:factG Tryz.prog Rows.localKeepsRow=true:=by kernel_rfl
theorem localKeeps_fH:factH Tryz.prog Tryz.f14 Rows.localKeepsSpec Rows.localKeepsRow=true:=by kernel_rfl
theorem localKeeps_holds:Rows.LocalKeepsSaid :=
 OpenClaim.holds_of_wide 14 Tryz.f14 rfl rfl rfl rfl rfl rfl rfl ⟨rfl,rfl,rfl,rfl,rfl⟩ rfl rfl rfl rfl rfl (by kernel_rfl) Tryz.func14 (joined_of localKeeps_fA localKeeps_fB localKeeps_fC localKeeps_fD localKeeps_fE localKeeps_fF localKeeps_fG localKeeps_fH)
  (of_decide_eq_true (by kernel_rfl)) (by unfold Func.isWrapper; rw [if_neg (of_decide_eq_false (by kernel_rfl))]; exact ⟨rfl,rfl⟩)
  (fun os started H enc _=>localKeeps_lifted os started H enc)
#print axioms localKeeps_holds
end Go.Proofs.YtidkmoohgadjkaaGreat
