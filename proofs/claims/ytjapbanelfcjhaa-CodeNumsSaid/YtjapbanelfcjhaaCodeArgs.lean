/- Bytes as an argument. -/
import Derived.Test.YtjapbanelfcjhaaArgs
import Derived.Test.YtjapbanelfcjhaaCode
set_option linter.unusedVariables false
set_option linter.unusedSimpArgs false
set_option maxRecDepth 100000
namespace Go.Proofs.Ytjapbanelfcjhaa.C
open Go E Go.ChangeShapes Go.WideShapes Go.ChangeAt Go.RowKit
theorem rows_bytes : ∀ {rows : List (List PC)}, (∀ r ∈ rows, Fits (.int .u8) r) → ∃ xs, rows = bs xs ∧ ∀ x ∈ xs, x < 256
  | [], _ => ⟨[], rfl, by simp⟩
  | r :: rows, h => by
    obtain ⟨xs, rfl, hx⟩ := rows_bytes (rows := rows) fun r hr => h r (by simp [hr])
    obtain ⟨n, rfl, hw⟩ := h r (by simp)
    simp only [Lit.wf, Bool.and_eq_true, decide_eq_true_eq] at hw
    have h1 : 0 ≤ n := by have := hw.1; simpa [IntKind.min, IntKind.signed, IntKind.bits] using this
    have h2 : n ≤ 255 := by have := hw.2; simpa [IntKind.max, IntKind.signed, IntKind.bits] using this
    obtain ⟨m, rfl⟩ := Int.eq_ofNat_of_zero_le h1
    exact ⟨m :: xs, rfl, by intro x hx'; rcases List.mem_cons.1 hx' with rfl | h'; omega; exact hx x h'⟩
section
variable {H : Type} {enc : TypeId × Value → H} {W : World} {v : Value} {d : DataW H} {ps : List MemPlace} {b0 : Nat}
theorem arg_bytes (hv : Value.okWide Try.prog W .any b0 26 v) (h : DataW.Trod enc Try.prog W 0 (fun _ => true) true 26 v d ps) : ∃ c xs, BytesP c xs ∧ VA W (zoneOf W) noLoc (.one (.p c)) v := by
  obtain ⟨c, hc, h0⟩ := arg_sl R.sh26 Try.underlying26 hv h
  rcases hc with rfl | ⟨rows, rfl, _, hr⟩
  · exact ⟨_, [], ⟨.inr ⟨rfl, rfl⟩, by simp⟩, h0⟩
  · obtain ⟨xs, rfl, hx⟩ := rows_bytes hr
    exact ⟨_, xs, ⟨.inl rfl, hx⟩, h0⟩
end
end Go.Proofs.Ytjapbanelfcjhaa.C
