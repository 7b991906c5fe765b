/-
  Proved: for every input, gallipotlaw08.ListKeeps returns true, and its arguments read behind the call as they did before.
  Conditions: none beyond those that the given row states (the row's own form; no narrowing).
-/
import Derived.Test.YtijkfjahgijphaaRows
import Derived.Test.YtijkfjahgijphaaListLaw
set_option linter.unusedVariables false
set_option linter.unusedSimpArgs false
set_option maxRecDepth 100000
namespace Go.Proofs.Ytijkfjahgijphaa
open Go E Go.ChangeShapes Go.WideShapes Go.ChangeAt Go.RowKit
theorem listKeeps_call (x0 : List Item) (o0 : ItemsOk x0) (x1 : List Item) (o1 : ItemsOk x1) (x2 : Item) (o2 : x2.Ok) (x3 : ByteArray) (o3 : x3.size ≤ maxLen) : CallOk Try.prog 9 [sl (x0.map Item.lrow), sl (x1.map Item.lrow), x2.la, sv x3] [] (bv true) [] := by
  obtain ⟨r, s, ⟨rfl, rfl⟩, h⟩ := law_listKeeps (X := TaskOk Try.prog) (Q := fun r s => r = bv true ∧ s = []) sound_ok o0 o1 o2 (Nat.le_trans o3 (by decide)) ⟨rfl, rfl⟩
  exact h
theorem listKeeps_lifted (os : Os) (started : os.Started) (H : Type) (enc : TypeId × Value → H) :
    ReturnsInHanded {} Try.checked os 9 .any (Rows.listKeepsSpec.pre6 enc Try.prog Try.f9 Rows.listKeepsRow.domain false) (Rows.listKeepsSpec.post enc Try.prog Try.f9 false true false false) := by
  refine returnsInHanded_of_change (C := Try.checked) ownNone started (by kernel_rfl) Try.func9
    (ChangeSpec.witness6 (enc := enc) (C := Try.checked) false ⟨#[], #[.slice none 0 0, .slice none 0 0, .agg #[.string ⟨#[]⟩, .int .i64 0, .int .i64 0, .int .i64 0, .string ⟨#[]⟩, .int .i64 0, .float .f64 0, .float .f64 0, .bool false], .string ⟨#[]⟩], []⟩ 8 (by kernel_rfl) (by kernel_rfl) (by kernel_rfl) (by kernel_rfl)) ?_
  intro W base args ds gs before hval0 hW hcnd _
  have hval : ∀ (j : Nat) t v, Try.f9.params[j]? = some t → args[j]? = some v → Value.okWide Try.prog W .any base t v := hval0
  have hW' : DataW.Whole enc Try.prog Try.f9.params.toList Rows.listKeepsSpec.vars false W args.toList ds gs before := hW
  obtain ⟨p, q, hA0, hV, -, hfz, hnd⟩ := hW
  have hA : DataW.TrodAll enc Try.prog W 0 (fun _ => true) true Try.f9.params.toList args.toList ds p := hA0
  rw [Try.params9] at hA hval
  obtain ⟨v0, v1, v2, v3, d0, d1, d2, d3, p0, p1, p2, p3, rfl, rfl, -, h0, h1, h2, h3⟩ := trodAll_four hA
  obtain ⟨x0, o0, e0⟩ := arg_rows (hval 0 26 v0 rfl rfl) h0
  obtain ⟨x1, o1, e1⟩ := arg_rows (hval 1 26 v1 rfl rfl) h1
  obtain ⟨x2, o2, e2⟩ := arg_row (hval 2 82 v2 rfl rfl) h2
  obtain ⟨x3, o3, e3⟩ := arg_str Try.underlying9 (hval 3 9 v3 rfl rfl) h3
  exact law_calls (P := Try.prog) (fn := Try.f9) (tb := 4) laidOut (all_rd (by kernel_rfl)) (all_lt (by kernel_rfl)) rfl Try.underlying4 rfl hW' rfl
    (.cons e0 (.cons e1 (.cons e2 (.cons e3 .nil)))) (listKeeps_call x0 o0 x1 o1 x2 o2 x3 o3)
theorem listKeeps_holds : Rows.ListKeepsSaid :=
  OpenClaim.holds_of_wide 9 Try.f9 rfl rfl rfl rfl rfl rfl rfl ⟨rfl, rfl, rfl, rfl, rfl⟩ rfl rfl rfl rfl rfl (by kernel_rfl) Try.func9 (by kernel_rfl)
    (of_decide_eq_true (by kernel_rfl)) (by unfold Func.isWrapper; rw [if_neg (of_decide_eq_false (by kernel_rfl))]; exact ⟨rfl, rfl⟩)
    (fun os started H enc _ => listKeeps_lifted os started H enc)
#print axioms listKeeps_holds
end Go.Proofs.Ytijkfjahgijphaa
