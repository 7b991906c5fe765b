/-
  Proved: for every input, gallipotlaw10.RecvOnce returns true, and its arguments read behind the call as they did before.
  Conditions: none beyond those that the given row states (the row's own form; no narrowing).
-/
import Derived.Test.YtidkmoohgadjkaaGreatRows
import Derived.Test.YtidkmoohgadjkaaGreatNFacts
import Derived.Test.YtidkmoohgadjkaaGreatNF
set_option linter.unusedVariables false
set_option linter.unusedSimpArgs false
set_option maxRecDepth 100000
namespace Go.Proofs.YtidkmoohgadjkaaGreat
open Go E Go.ChangeShapes Go.WideShapes Go.ChangeAt Go.RowKit
theorem recvOnce_call (x0:Sit) (o0:x0.Ok) (x1:Item) (o1:x1.Ok) (x2:Ver) (o2:x2.Ok) (x3:ByteArray) (o3:x3.size≤maxLen):CallOk Tryz.prog 7 [x0.la,x1.la,x2.la,sv x3] [] (bv true) []:=by
 obtain ⟨r,s,⟨rfl,rfl⟩,h⟩:=law_recvOnce (X:=TaskOk Tryz.prog) (Q:=fun r s=>r=bv true∧s=[]) sound_ok o0 o1 o2 (Nat.le_trans o3 (by decide)) ⟨rfl,rfl⟩
 exact h
theorem recvOnce_lifted (os:Os) (started:os.Started) (H:Type) (enc:TypeId × Value→H) :
  ReturnsInHanded {} Tryz.checked os 7 .any (Rows.recvOnceSpec.pre6 enc Tryz.prog Tryz.f7 Rows.recvOnceRow.domain false) (Rows.recvOnceSpec.post enc Tryz.prog Tryz.f7 false true false false):=by
 refine returnsInHanded_of_change (C:=Tryz.checked) ownNone started (by kernel_rfl) Tryz.func7
  (ChangeSpec.witness6 (enc:=enc) (C:=Tryz.checked) false ⟨#[], #[.agg #[.int .i64 0,.int .i64 0,.string ⟨#[]⟩,.int .i64 0,.float .f64 0,.float .f64 0,.slice none 0 0,.slice none 0 0,.slice none 0 0,.int .i64 0,.int .i64 0,.int .i64 0,.int .i64 0,.int .i64 0,.int .i64 0,.int .i64 0,.int .i64 0,.slice none 0 0,.int .i64 0,.int .i64 0,.int .i64 0],.agg #[.string ⟨#[]⟩,.int .i64 0,.int .i64 0,.int .i64 0,.string ⟨#[]⟩,.int .i64 0,.float .f64 0,.float .f64 0,.bool false],.agg #[.int .i64 0,.int .i64 0],.string ⟨#[]⟩],[]⟩ 8 (by kernel_rfl) (by kernel_rfl) (by kernel_rfl) (by kernel_rfl)) ?_
 intro W base args ds gs before hval0 hW hcnd _
 have hval:∀ (j:Nat) t v,Tryz.f7.params[j]?=some t→args[j]?=some v→Value.okWide Tryz.prog W .any base t v:=hval0
 have hW':DataW.Whole enc Tryz.prog Tryz.f7.params.toList Rows.recvOnceSpec.vars false W args.toList ds gs before:=hW
 obtain ⟨p,q,hA0,hV, -, hfz,hnd⟩:=hW
 have hA:DataW.TrodAll enc Tryz.prog W 0 (fun _=>true) true Tryz.f7.params.toList args.toList ds p:=hA0
 rw [Tryz.params7] at hA hval
 obtain ⟨v0,v1,v2,v3,d0,d1,d2,d3,p0,p1,p2,p3,rfl,rfl, -, h0,h1,h2,h3⟩:=trodAll_four hA
 obtain ⟨x0,o0,e0⟩:=arg_sit (hval 0 33 v0 rfl rfl) h0
 obtain ⟨x1,o1,e1⟩:=arg_row (hval 1 78 v1 rfl rfl) h1
 obtain ⟨x2,o2,e2⟩:=arg_ver (hval 2 66 v2 rfl rfl) h2
 obtain ⟨x3,o3,e3⟩:=arg_str Tryz.underlying9 (hval 3 9 v3 rfl rfl) h3
 exact law_calls (P:=Tryz.prog) (fn:=Tryz.f7) (tb:=4) laidOut (all_rd (by kernel_rfl)) (all_lt (by kernel_rfl)) rfl Tryz.underlying4 rfl hW' rfl
  (.cons e0 (.cons e1 (.cons e2 (.cons e3 .nil)))) (recvOnce_call x0 o0 x1 o1 x2 o2 x3 o3)
theorem recvOnce_fA:factA Tryz.prog Tryz.f7 Rows.recvOnceSpec Rows.recvOnceRow=true:=by kernel_rfl
theorem recvOnce_fB:factB Tryz.prog 7 Rows.recvOnceRow=true:=by kernel_rfl
theorem recvOnce_fC:factC Tryz.prog 7 Rows.recvOnceRow=true:=by kernel_rfl
theorem recvOnce_fD:factD Tryz.prog 7 Rows.recvOnceRow=true:=by kernel_rfl
theorem recvOnce_fE:factE Tryz.prog 7 Rows.recvOnceRow=true:=by kernel_rfl
theorem recvOnce_fF:factF Tryz.prog Tryz.f7 Rows.recvOnceSpec Rows.recvOnceRow=true:=by kernel_rfl
theorem recvOnce_fG:factG Tryz.prog Rows.recvOnceRow=true:=by kernel_rfl
theorem recvOnce_fH:factH Tryz.prog Tryz.f7 Rows.recvOnceSpec Rows.recvOnceRow=true:=by kernel_rfl
theorem recvOnce_holds:Rows.RecvOnceSaid :=
 OpenClaim.holds_of_wide 7 Tryz.f7 rfl rfl rfl rfl rfl rfl rfl ⟨rfl,rfl,rfl,rfl,rfl⟩ rfl rfl rfl rfl rfl (by kernel_rfl) Tryz.func7 (joined_of recvOnce_fA recvOnce_fB recvOnce_fC recvOnce_fD recvOnce_fE recvOnce_fF recvOnce_fG recvOnce_fH)
  (of_decide_eq_true (by kernel_rfl)) (by unfold Func.isWrapper; rw [if_neg (of_decide_eq_false (by kernel_rfl))]; exact ⟨rfl,rfl⟩)
  (fun os started H enc _=>recvOnce_lifted os started H enc)
#print axioms recvOnce_holds
end Go.Proofs.YtidkmoohgadjkaaGreat
