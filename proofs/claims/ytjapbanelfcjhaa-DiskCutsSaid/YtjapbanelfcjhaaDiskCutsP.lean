/-
  Proved: for every input, gallipotlaw18.DiskCuts returns true, and its arguments read behind the call as they did before.
  Conditions: none beyond those that the given row states (the row's own form; no narrowing).
-/
import Derived.Test.YtjapbanelfcjhaaRows
import Derived.Test.YtjapbanelfcjhaaDiskCutsV
import Derived.Test.YtjapbanelfcjhaaArgs
set_option linter.unusedVariables false
set_option linter.unusedSimpArgs false
set_option maxRecDepth 100000
namespace Go.Proofs.Ytjapbanelfcjhaa
open Go E Go.ChangeShapes Go.WideShapes Go.ChangeAt Go.RowKit
theorem cuts_rows {rows : List (List PC)} (h : ∀ r ∈ rows, Fits (.sl (.int .u8)) r) (i : Int) (hi : lenB rows i = true) : ∃ c r, D.RowIs rows i c r := by
  unfold lenB at hi
  rw [decide_eq_true_eq] at hi
  have hlt : i.toNat < rows.length := by omega
  have hm := h _ (List.getElem_mem hlt)
  have hr : E.rowAt rows i = rows[i.toNat] := by unfold E.rowAt; rw [List.getD_eq_getElem?_getD, List.getElem?_eq_getElem hlt]; rfl
  rcases hm with hm | ⟨r, hm, _, hb⟩
  · exact ⟨_, [], hr.trans hm, .inr ⟨rfl, rfl⟩, rfl⟩
  · exact ⟨_, r, hr.trans hm, .inl rfl, R.bytes_ok hb⟩
theorem cuts_call {l : PC} {rows : List (List PC)} (hl : D.RowsP l rows) (h : ∀ r ∈ rows, Fits (.sl (.int .u8)) r) (a n b : Int) (hn : (Lit.int .i64 n).wf = true) : CallOk Try.prog 3 [.one (.p l), .one (.p (.v (.int .i64 a))), .one (.p (.v (.int .i64 n))), .one (.p (.v (.int .i64 b)))] [] (.one (.p (.v (.bool true)))) [] := by
  have hn' : n ≤ 9223372036854775807 := by
    simp only [Lit.wf, Bool.and_eq_true, decide_eq_true_eq] at hn
    have := hn.2
    simpa [IntKind.max, IntKind.signed, IntKind.bits] using this
  obtain ⟨r, s, ⟨rfl, rfl⟩, h⟩ := D.cuts_ok (X := TaskOk Try.prog) (a := a) (n := n) (b := b) (Q := fun r s => r = .one (.p (.v (.bool true))) ∧ s = []) (sound T_ok R.mixedF (fun _ _ _ h => h.elim)) hl (cuts_rows h) hn' ⟨rfl, rfl⟩
  exact h
theorem diskCuts_lifted (os : Os) (started : os.Started) (H : Type) (enc : TypeId × Value → H) :
    ReturnsInHanded {} Try.checked os 3 .any (Rows.diskCutsSpec.pre6 enc Try.prog Try.f3 Rows.diskCutsRow.domain false) (Rows.diskCutsSpec.post enc Try.prog Try.f3 false true false false) := by
  refine returnsInHanded_of_change (C := Try.checked) R.ownNone started (by kernel_rfl) Try.func3
    (ChangeSpec.witness6 (enc := enc) (C := Try.checked) false ⟨#[], #[.slice none 0 0, .int .i64 0, .int .i64 0, .int .i64 0], []⟩ 8 (by kernel_rfl) (by kernel_rfl) (by kernel_rfl) (by kernel_rfl)) ?_
  intro W base args ds gs before hval0 hW hcnd _
  have hval : ∀ (j : Nat) t v, Try.f3.params[j]? = some t → args[j]? = some v → Value.okWide Try.prog W .any base t v := hval0
  have hW' : DataW.Whole enc Try.prog Try.f3.params.toList Rows.diskCutsSpec.vars false W args.toList ds gs before := hW
  obtain ⟨p, q, hA0, hV, -, hfz, hnd⟩ := hW
  have hA : DataW.TrodAll enc Try.prog W 0 (fun _ => true) true Try.f3.params.toList args.toList ds p := hA0
  rw [Try.params3] at hA hval
  obtain ⟨v0, v1, v2, v3, d0, d1, d2, d3, p0, p1, p2, p3, rfl, rfl, -, h0, h1, h2, h3⟩ := trodAll_four hA
  obtain ⟨l, hl, hl0⟩ := arg_sl R.sh22 Try.underlying22 (hval 0 22 v0 rfl rfl) h0
  obtain ⟨a, _, ha⟩ := arg_int Try.underlying3 (hval 1 3 v1 rfl rfl) h1
  obtain ⟨n, hn, hn0⟩ := arg_int Try.underlying3 (hval 2 3 v2 rfl rfl) h2
  obtain ⟨b, _, hb⟩ := arg_int Try.underlying3 (hval 3 3 v3 rfl rfl) h3
  have hcall : CallOk Try.prog 3 [.one (.p l), .one (.p (.v (.int .i64 a))), .one (.p (.v (.int .i64 n))), .one (.p (.v (.int .i64 b)))] [] (.one (.p (.v (.bool true)))) [] := by
    rcases hl with rfl | ⟨rows, rfl, _, hr⟩
    · exact cuts_call (.inr ⟨rfl, rfl⟩) (by simp) a n b hn
    · exact cuts_call (.inl rfl) hr a n b hn
  exact law_calls (P := Try.prog) (fn := Try.f3) (tb := 4) R.laidOut (R.all_rd (by kernel_rfl)) (R.all_lt (by kernel_rfl)) rfl Try.underlying4 rfl hW' rfl
    (.cons hl0 (.cons ha (.cons hn0 (.cons hb .nil)))) hcall
theorem diskCuts_holds : Rows.DiskCutsSaid :=
  OpenClaim.holds_of_wide 3 Try.f3 rfl rfl rfl rfl rfl rfl rfl ⟨rfl, rfl, rfl, rfl, rfl⟩ rfl rfl rfl rfl rfl (by kernel_rfl) Try.func3 (by kernel_rfl)
    (of_decide_eq_true (by kernel_rfl)) (by unfold Func.isWrapper; rw [if_neg (of_decide_eq_false (by kernel_rfl))]; exact ⟨rfl, rfl⟩)
    (fun os started H enc _ => diskCuts_lifted os started H enc)
#print axioms diskCuts_holds
end Go.Proofs.Ytjapbanelfcjhaa
