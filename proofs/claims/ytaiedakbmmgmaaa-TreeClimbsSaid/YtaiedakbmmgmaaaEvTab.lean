/- The table of types, row by row. -/
import Derived.Test.YtaiedakbmmgmaaaEvEq
set_option linter.unusedVariables false
set_option linter.unusedSimpArgs false
namespace Go.Proofs.Ytaiedakbmmgmaaa.E
open Go

def TFrom (P : Program) : Nat → List TI → Prop
  | _, [] => True
  | n, x :: l => TIOk P n x ∧ TFrom P (n + 1) l
theorem TFrom.get {P : Program} : ∀ {l : List TI} {n : Nat}, TFrom P n l → ∀ i, TIOk P (n + i) (l.getD i TI.none)
  | [], n, _, i => Or.inl (by simp)
  | x :: l, n, h, 0 => h.1
  | x :: l, n, h, i + 1 => by
    have := TFrom.get h.2 i
    rw [Nat.add_assoc, Nat.add_comm 1 i] at this
    simpa using this
theorem TOk.of {P : Program} {l : List TI} (h : TFrom P 0 l) : TOk P l := fun t => by
  have := h.get t
  simp only [ty, nth_eq]
  simpa using this
theorem knownD_ne {d : TD} (h : knownD d = true) : d ≠ .other := fun e => by rw [e] at h; cases h
/-- one row, of a type of which '==' is not asked -/
theorem row {P : Program} {t : Nat} {x : TI} {i : TypeInfo} {zv : Value} (hd : DescOk P t x.d) (hk : knownD x.d = true) (hi : P.info? t = some i) (hs : i.size = x.sz) (hb : i.bytes = x.bytes) (hz : i.zero = some zv) (hc : zv.cells.toList = x.z)
    (ha : isAgg x.d = true ∨ x.z = [zv]) (hcmp : i.comparable = true ∨ ∀ k, x.d ≠ .int k) (hl : x.z.length = x.sz) (hf : x.z.all flat = true) (he : x.eq = false) : TIOk P t x :=
  .inr ⟨hd, knownD_ne hk, ⟨i, zv, hi, hs, hb, hz, hc, fun h => ha.resolve_left (by rw [h]; decide), fun ⟨k, hk⟩ => hcmp.resolve_right fun h => h k hk⟩, hl, fun v hv => List.all_eq_true.mp hf v hv, fun h => by rw [he] at h; cases h⟩
theorem rowEq {P : Program} {t : Nat} {x : TI} {i : TypeInfo} {zv : Value} (hd : DescOk P t x.d) (hk : knownD x.d = true) (hi : P.info? t = some i) (hs : i.size = x.sz) (hb : i.bytes = x.bytes) (hz : i.zero = some zv) (hc : zv.cells.toList = x.z)
    (ha : isAgg x.d = true) (hcmp : ∀ k, x.d ≠ .int k) (hl : x.z.length = x.sz) (hf : x.z.all flat = true) (he : EqP P t x.z) : TIOk P t x :=
  .inr ⟨hd, knownD_ne hk, ⟨i, zv, hi, hs, hb, hz, hc, fun h => absurd ha (by rw [h]; decide), fun ⟨k, hk⟩ => absurd hk (hcmp k)⟩, hl, fun v hv => List.all_eq_true.mp hf v hv, fun _ => he⟩
theorem depth_ge (P : Program) : 200 ≤ P.depth := by unfold Program.depth Made.depth; omega
end Go.Proofs.Ytaiedakbmmgmaaa.E
