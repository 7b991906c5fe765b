/- Bytes as arguments of laws. -/
import Derived.Test.YtidkmoohgadjkaaBFlt
import Derived.Test.YtidkmoohgadjkaaBSpec
set_option linter.unusedVariables false
set_option linter.unusedSimpArgs false
set_option maxRecDepth 100000
set_option maxHeartbeats 4000000
namespace Go.Proofs.Ytidkmoohgadjkaa
open Go E Go.ChangeShapes Go.WideShapes Go.ChangeAt Go.RowKit
theorem cellsU8 : Try.prog.cellsOf 5 = 1 := by kernel_rfl
theorem shU8 (n : Nat) : ShOk Try.prog n 5 (.int .u8) := .int Try.underlying5
theorem shBytes : ∀ n, ShOk Try.prog n 22 (.sl (.int .u8))
  | 0 => .zero
  | n + 1 => .sl Try.underlying22 cellsU8 (by decide) (shU8 n)
theorem rows_bytes : ∀ {rows : List (List PC)}, (∀ r ∈ rows, Fits (.int .u8) r) → ∃ xs : List Nat, rows = xs.map brw ∧ ∀ x ∈ xs, x < 256
  | [], _ => ⟨[], rfl, by simp⟩
  | r :: rows, h => by
    obtain ⟨xs, rfl, hx⟩ := rows_bytes (rows := rows) fun r hr => h r (by simp [hr])
    obtain ⟨n, rfl, hw⟩ := h r (by simp)
    simp only [Lit.wf, Bool.and_eq_true, decide_eq_true_eq] at hw
    have h1 : 0 ≤ n := by have := hw.1; simpa [IntKind.min, IntKind.signed, IntKind.bits] using this
    have h2 : n ≤ 255 := by have := hw.2; simpa [IntKind.max, IntKind.signed, IntKind.bits] using this
    obtain ⟨m, rfl⟩ := Int.eq_ofNat_of_zero_le h1
    exact ⟨m :: xs, rfl, by intro x hx'; rcases List.mem_cons.1 hx' with rfl | h'; omega; exact hx x h'⟩
section
variable {H : Type} {enc : TypeId × Value → H} {W : World} {v : Value} {d : DataW H} {ps : List MemPlace} {b0 : Nat}
theorem arg_bytes (hv : Value.okWide Try.prog W .any b0 22 v) (h : DataW.Trod enc Try.prog W 0 (fun _ => true) true 22 v d ps) : ∃ xs : List Nat, (∀ x ∈ xs, x < 256) ∧ VA W (zoneOf W) noLoc (sl (xs.map brw)) v := by
  obtain ⟨n, rows, h0, h1, h2⟩ := arg_sl (sl := fun _ => .sl (.int .u8)) (sf := fun _ => .int .u8) shBytes (fun _ => rfl) Try.underlying22 hv h
  obtain ⟨xs, rfl, hx⟩ := rows_bytes h1
  exact ⟨xs, hx, h2⟩
end
end Go.Proofs.Ytidkmoohgadjkaa
