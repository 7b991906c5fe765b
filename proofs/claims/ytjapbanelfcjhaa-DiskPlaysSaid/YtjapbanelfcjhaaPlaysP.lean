/-
  Proved: for every input, gallipotlaw18.DiskPlays returns true, and its arguments read behind the call as they did before.
  Conditions: none beyond those that the given row states (the row's own form; no narrowing).
-/
import Derived.Test.YtjapbanelfcjhaaRows
import Derived.Test.YtjapbanelfcjhaaPlaysV
import Derived.Test.YtjapbanelfcjhaaArgs
set_option linter.unusedVariables false
set_option linter.unusedSimpArgs false
set_option maxRecDepth 100000
namespace Go.Proofs.Ytjapbanelfcjhaa
open Go E Go.ChangeShapes Go.WideShapes Go.ChangeAt Go.RowKit
abbrev shDeed : Sh := .cat (.int .i64) (.cat (.int .i64) (.cat (.sl (.int .u8)) .nil))
theorem shDeed_ok : ShOk Try.prog 92 shDeed :=
  .struct Try.underlying92 (by kernel_rfl) (.cons rfl (by kernel_rfl) R.sh3 (.cons rfl (by kernel_rfl) R.sh3 (.cons rfl (by kernel_rfl) R.sh26 .nil)))
theorem sh86_ok : ShOk Try.prog 86 (.sl shDeed) := .sl Try.underlying86 (by kernel_rfl) (by decide) shDeed_ok
theorem plays_rows {rows : List (List PC)} (h : ∀ r ∈ rows, Fits shDeed r) (i : Int) (hi : lenB rows i = true) : ∃ w n c r, P.DeedIs rows i w n c r ∧ n ≤ 9223372036854775807 := by
  unfold lenB at hi
  rw [decide_eq_true_eq] at hi
  have hlt : i.toNat < rows.length := by omega
  have hm := h _ (List.getElem_mem hlt)
  have hr : E.rowAt rows i = rows[i.toNat] := by unfold E.rowAt; rw [List.getD_eq_getElem?_getD, List.getElem?_eq_getElem hlt]; rfl
  obtain ⟨x, y, he, ⟨w, rfl, _⟩, ⟨x2, y2, rfl, ⟨n, rfl, hn⟩, ⟨x3, y3, rfl, h3, h4⟩⟩⟩ := hm
  have h4' : y3 = [] := h4
  subst h4'
  have hn' : n ≤ 9223372036854775807 := by
    simp only [Lit.wf, Bool.and_eq_true, decide_eq_true_eq] at hn
    have := hn.2
    simpa [IntKind.max, IntKind.signed, IntKind.bits] using this
  rcases h3 with rfl | ⟨r, rfl, _, hb⟩
  · exact ⟨w, n, _, [], ⟨hr.trans he, .inr ⟨rfl, rfl⟩, rfl⟩, hn'⟩
  · exact ⟨w, n, _, r, ⟨hr.trans he, .inl rfl, R.bytes_ok hb⟩, hn'⟩
theorem plays_call {l : PC} {rows : List (List PC)} (hl : P.RowsP l rows) (h : ∀ r ∈ rows, Fits shDeed r) : CallOk Try.prog 8 [.one (.p l)] [] (.one (.p (.v (.bool true)))) [] := by
  obtain ⟨r, s, ⟨rfl, rfl⟩, h⟩ := P.plays_ok (X := TaskOk Try.prog) (Q := fun r s => r = .one (.p (.v (.bool true))) ∧ s = []) (sound T_ok R.mixedF (fun _ _ _ h => h.elim)) hl (plays_rows h) ⟨rfl, rfl⟩
  exact h
theorem diskPlays_lifted (os : Os) (started : os.Started) (H : Type) (enc : TypeId × Value → H) :
    ReturnsInHanded {} Try.checked os 8 .any (Rows.diskPlaysSpec.pre6 enc Try.prog Try.f8 Rows.diskPlaysRow.domain false) (Rows.diskPlaysSpec.post enc Try.prog Try.f8 false true false false) := by
  refine returnsInHanded_of_change (C := Try.checked) R.ownNone started (by kernel_rfl) Try.func8
    (ChangeSpec.witness6 (enc := enc) (C := Try.checked) false ⟨#[], #[.slice none 0 0], []⟩ 8 (by kernel_rfl) (by kernel_rfl) (by kernel_rfl) (by kernel_rfl)) ?_
  intro W base args ds gs before hval0 hW hcnd _
  have hval : ∀ (j : Nat) t v, Try.f8.params[j]? = some t → args[j]? = some v → Value.okWide Try.prog W .any base t v := hval0
  have hW' : DataW.Whole enc Try.prog Try.f8.params.toList Rows.diskPlaysSpec.vars false W args.toList ds gs before := hW
  obtain ⟨p, q, hA0, hV, -, hfz, hnd⟩ := hW
  have hA : DataW.TrodAll enc Try.prog W 0 (fun _ => true) true Try.f8.params.toList args.toList ds p := hA0
  rw [Try.params8] at hA hval
  obtain ⟨v0, d0, rfl, rfl, h0⟩ := trodAll_one hA
  obtain ⟨l, hl, hl0⟩ := arg_sl sh86_ok Try.underlying86 (hval 0 86 v0 rfl rfl) h0
  have hcall : CallOk Try.prog 8 [.one (.p l)] [] (.one (.p (.v (.bool true)))) [] := by
    rcases hl with rfl | ⟨rows, rfl, _, hr⟩
    · exact plays_call (.inr ⟨rfl, rfl⟩) (fun _ h => nomatch h)
    · exact plays_call (.inl rfl) hr
  exact law_calls (P := Try.prog) (fn := Try.f8) (tb := 4) R.laidOut (R.all_rd (by kernel_rfl)) (R.all_lt (by kernel_rfl)) rfl Try.underlying4 rfl hW' rfl
    (.cons hl0 .nil) hcall
theorem diskPlays_holds : Rows.DiskPlaysSaid :=
  OpenClaim.holds_of_wide 8 Try.f8 rfl rfl rfl rfl rfl rfl rfl ⟨rfl, rfl, rfl, rfl, rfl⟩ rfl rfl rfl rfl rfl (by kernel_rfl) Try.func8 (by kernel_rfl)
    (of_decide_eq_true (by kernel_rfl)) (by unfold Func.isWrapper; rw [if_neg (of_decide_eq_false (by kernel_rfl))]; exact ⟨rfl, rfl⟩)
    (fun os started H enc _ => diskPlays_lifted os started H enc)
#print axioms diskPlays_holds
end Go.Proofs.Ytjapbanelfcjhaa
