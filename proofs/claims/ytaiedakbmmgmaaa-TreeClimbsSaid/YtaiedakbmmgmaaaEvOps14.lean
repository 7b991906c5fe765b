/- Soundness of the operations: all together. -/
import Derived.Test.YtaiedakbmmgmaaaEvOps13
set_option linter.unusedVariables false
set_option linter.unusedSimpArgs false
namespace Go.Proofs.Ytaiedakbmmgmaaa.E
open Go
variable {P : Program} {T : List TI} {t : List A} {σ : List Blk} {nx : Nat} {o : Oper} {K : Kont}

theorem stepC_ok (hT : TOk P T) (h : stepC T t σ nx o.op K) : StepOk P t σ nx o K := by
  generalize ho : o.op = op at h
  cases op with
  | move x => exact move_ok (.inl ho) h
  | assign x => exact move_ok (T := T) (.inr ho) h
  | pick c x y => exact pick_ok ho h
  | alloc e => exact alloc_ok hT ho h
  | box e x => exact box_ok ho h
  | build s ps => exact build_ok hT ho h
  | buildSlice s n ps => exact buildSlice_ok hT ho h
  | load s x => exact load_ok hT ho h
  | store s x y => exact store_ok hT ho h
  | nilCheck x => exact nilCheck_ok ho h
  | binOp op s x y s' => exact binOp_ok hT ho h
  | unOp op s x => exact unOp_ok ho h
  | convert s d x => exact convert_ok hT ho h
  | makeInterface s x => exact makeInterface_ok hT ho h
  | makeFunc f a b => exact makeFunc_ok ho h
  | makeSlice s n c => exact makeSlice_ok hT ho h
  | slice s x lo hi mx => exact slice_ok hT ho h
  | fieldAddr s x i => exact fieldAddr_ok hT ho h
  | field s x i => exact field_ok hT ho h
  | indexAddr s x i => exact indexAddr_ok hT ho h
  | index s x i => exact index_ok hT ho h
  | extract x i => exact extract_ok ho h
  | typeAssert x s0 s ok => exact typeAssert_ok hT ho h
  | call c =>
    obtain ⟨callee, args, argTypes⟩ := c
    cases callee with
    | builtin b => exact builtin_ok hT ho h
    | value f => exact h.elim
    | _ => exact h.elim
  | _ => exact h.elim
end Go.Proofs.Ytaiedakbmmgmaaa.E
