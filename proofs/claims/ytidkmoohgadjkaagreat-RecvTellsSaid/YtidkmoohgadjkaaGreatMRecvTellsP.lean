/-
  Proved: for every input, gallipotlaw10.RecvTells returns true, and its arguments read behind the call as they did before.
  Conditions: none beyond those that the given row states (the row's own form; no narrowing).
-/
import Derived.Test.YtidkmoohgadjkaaGreatRows
import Derived.Test.YtidkmoohgadjkaaGreatMFacts
import Derived.Test.YtidkmoohgadjkaaGreatMF
set_option linter.unusedVariables false
set_option linter.unusedSimpArgs false
set_option maxRecDepth 100000
namespace Go.Proofs.YtidkmoohgadjkaaGreat
open Go E Go.ChangeShapes Go.WideShapes Go.ChangeAt Go.RowKit
theorem recvTells_call (x0:Sit) (o0:x0.Ok) (x1:Item) (o1:x1.Ok) (x2:ByteArray) (o2:x2.size≤maxLen) (x3:Ver) (o3:x3.Ok) (x4:Ver) (o4:x4.Ok):CallOk Tryz.prog 6 [x0.la,x1.la,sv x2,x3.la,x4.la] [] (bv true) []:=by
 obtain ⟨r,s,⟨rfl,rfl⟩,h⟩:=law_recvTells (X:=TaskOk Tryz.prog) (Q:=fun r s=>r=bv true∧s=[]) sound_ok o0 o1 (Nat.le_trans o2 (by decide)) o3 o4 ⟨rfl,rfl⟩
 exact h
theorem recvTells_lifted (os:Os) (started:os.Started) (H:Type) (enc:TypeId × Value→H) :
  ReturnsInHanded {} Tryz.checked os 6 .any (Rows.recvTellsSpec.pre6 enc Tryz.prog Tryz.f6 Rows.recvTellsRow.domain false) (Rows.recvTellsSpec.post enc Tryz.prog Tryz.f6 false true false false):=by
 refine returnsInHanded_of_change (C:=Tryz.checked) ownNone started (by kernel_rfl) Tryz.func6
  (ChangeSpec.witness6 (enc:=enc) (C:=Tryz.checked) false ⟨#[], #[.agg #[.int .i64 0,.int .i64 0,.string ⟨#[]⟩,.int .i64 0,.float .f64 0,.float .f64 0,.slice none 0 0,.slice none 0 0,.slice none 0 0,.int .i64 0,.int .i64 0,.int .i64 0,.int .i64 0,.int .i64 0,.int .i64 0,.int .i64 0,.int .i64 0,.slice none 0 0,.int .i64 0,.int .i64 0,.int .i64 0],.agg #[.string ⟨#[]⟩,.int .i64 0,.int .i64 0,.int .i64 0,.string ⟨#[]⟩,.int .i64 0,.float .f64 0,.float .f64 0,.bool false],.string ⟨#[]⟩,.agg #[.int .i64 0,.int .i64 0],.agg #[.int .i64 0,.int .i64 0]],[]⟩ 8 (by kernel_rfl) (by kernel_rfl) (by kernel_rfl) (by kernel_rfl)) ?_
 intro W base args ds gs before hval0 hW hcnd _
 have hval:∀ (j:Nat) t v,Tryz.f6.params[j]?=some t→args[j]?=some v→Value.okWide Tryz.prog W .any base t v:=hval0
 have hW':DataW.Whole enc Tryz.prog Tryz.f6.params.toList Rows.recvTellsSpec.vars false W args.toList ds gs before:=hW
 obtain ⟨p,q,hA0,hV, -, hfz,hnd⟩:=hW
 have hA:DataW.TrodAll enc Tryz.prog W 0 (fun _=>true) true Tryz.f6.params.toList args.toList ds p:=hA0
 rw [Tryz.params6] at hA hval
 obtain ⟨v0,v1,v2,v3,v4,d0,d1,d2,d3,d4,p0,p1,p2,p3,p4,rfl,rfl, -, h0,h1,h2,h3,h4⟩:=trodAll_five hA
 obtain ⟨x0,o0,e0⟩:=arg_sit (hval 0 33 v0 rfl rfl) h0
 obtain ⟨x1,o1,e1⟩:=arg_row (hval 1 78 v1 rfl rfl) h1
 obtain ⟨x2,o2,e2⟩:=arg_str Tryz.underlying9 (hval 2 9 v2 rfl rfl) h2
 obtain ⟨x3,o3,e3⟩:=arg_ver (hval 3 66 v3 rfl rfl) h3
 obtain ⟨x4,o4,e4⟩:=arg_ver (hval 4 66 v4 rfl rfl) h4
 exact law_calls (P:=Tryz.prog) (fn:=Tryz.f6) (tb:=4) laidOut (all_rd (by kernel_rfl)) (all_lt (by kernel_rfl)) rfl Tryz.underlying4 rfl hW' rfl
  (.cons e0 (.cons e1 (.cons e2 (.cons e3 (.cons e4 .nil))))) (recvTells_call x0 o0 x1 o1 x2 o2 x3 o3 x4 o4)
theorem recvTells_fA:factA Tryz.prog Tryz.f6 Rows.recvTellsSpec Rows.recvTellsRow=true:=by kernel_rfl
theorem recvTells_fB:factB Tryz.prog 6 Rows.recvTellsRow=true:=by kernel_rfl
theorem recvTells_fC:factC Tryz.prog 6 Rows.recvTellsRow=true:=by kernel_rfl
theorem recvTells_fD:factD Tryz.prog 6 Rows.recvTellsRow=true:=by kernel_rfl
theorem recvTells_fE:factE Tryz.prog 6 Rows.recvTellsRow=true:=by kernel_rfl
theorem recvTells_fF:factF Tryz.prog Tryz.f6 Rows.recvTellsSpec Rows.recvTellsRow=true:=by kernel_rfl
theorem recvTells_fG:factG Tryz.prog Rows.recvTellsRow=true:=by kernel_rfl
theorem recvTells_fH:factH Tryz.prog Tryz.f6 Rows.recvTellsSpec Rows.recvTellsRow=true:=by kernel_rfl
theorem recvTells_holds:Rows.RecvTellsSaid :=
 OpenClaim.holds_of_wide 6 Tryz.f6 rfl rfl rfl rfl rfl rfl rfl ⟨rfl,rfl,rfl,rfl,rfl⟩ rfl rfl rfl rfl rfl (by kernel_rfl) Tryz.func6 (joined_of recvTells_fA recvTells_fB recvTells_fC recvTells_fD recvTells_fE recvTells_fF recvTells_fG recvTells_fH)
  (of_decide_eq_true (by kernel_rfl)) (by unfold Func.isWrapper; rw [if_neg (of_decide_eq_false (by kernel_rfl))]; exact ⟨rfl,rfl⟩)
  (fun os started H enc _=>recvTells_lifted os started H enc)
#print axioms recvTells_holds
end Go.Proofs.YtidkmoohgadjkaaGreat
