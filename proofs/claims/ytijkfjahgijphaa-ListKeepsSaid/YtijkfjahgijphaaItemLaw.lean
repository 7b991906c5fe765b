/- The statements of layer 2, walked. -/
import Derived.Test.YtijkfjahgijphaaItem
set_option linter.unusedVariables false
set_option linter.unusedSimpArgs false
set_option maxRecDepth 100000
set_option maxHeartbeats 4000000
namespace Go.Proofs.Ytijkfjahgijphaa
open Go E
abbrev z0 (n : Int) : Item := ⟨⟨#[]⟩, 0, 0, n, ⟨#[]⟩, 0, 0, 0, false⟩
theorem beq_selfB (b : Bool) : boolEq b b = true := by rw [boolEq_eq]; simp
theorem brec_self (b : Bool) : (@Bool.rec (fun _ => Bool) (!b) b b) = true := by cases b <;> rfl
theorem compareV_neg (a b : Item) : compareV b a = - compareV a b := by
  unfold compareV behindB ltI eqI
  rcases tri a.stamp b.stamp with ⟨h1, h2, h3, h4⟩ | h1 | ⟨h1, h2, h3, h4⟩ <;> rcases tri a.vr b.vr with ⟨g1, g2, g3, g4⟩ | g1 | ⟨g1, g2, g3, g4⟩ <;> rcases tri a.vc b.vc with ⟨k1, k2, k3, k4⟩ | k1 | ⟨k1, k2, k3, k4⟩ <;> simp [*]
theorem compareV_cases (a b : Item) : compareV a b = -1 ∨ compareV a b = 0 ∨ compareV a b = 1 := by
  unfold compareV; split
  · simp
  · split <;> simp
theorem compareV_zero (a b : Item) : eqI (compareV a b) 0 = (eqI a.stamp b.stamp && (eqI a.vr b.vr && eqI a.vc b.vc)) := by
  unfold compareV behindB ltI eqI
  rcases tri a.stamp b.stamp with ⟨h1, h2, h3, h4⟩ | h1 | ⟨h1, h2, h3, h4⟩ <;> rcases tri a.vr b.vr with ⟨g1, g2, g3, g4⟩ | g1 | ⟨g1, g2, g3, g4⟩ <;> rcases tri a.vc b.vc with ⟨k1, k2, k3, k4⟩ | k1 | ⟨k1, k2, k3, k4⟩ <;> simp [*]
/-- a lexical order -/
theorem compareV_lex (a b : Item) : (compareV a b = 1 ↔ b.stamp < a.stamp ∨ (a.stamp = b.stamp ∧ (b.vr < a.vr ∨ (a.vr = b.vr ∧ b.vc < a.vc)))) := by
  unfold compareV behindB ltI eqI
  rcases tri a.stamp b.stamp with ⟨h1, h2, h3, h4⟩ | h1 | ⟨h1, h2, h3, h4⟩ <;> rcases tri a.vr b.vr with ⟨g1, g2, g3, g4⟩ | g1 | ⟨g1, g2, g3, g4⟩ <;> rcases tri a.vc b.vc with ⟨k1, k2, k3, k4⟩ | k1 | ⟨k1, k2, k3, k4⟩ <;> simp [*]
theorem compareV_eq0 (a b : Item) : compareV a b = 0 ↔ a.stamp = b.stamp ∧ a.vr = b.vr ∧ a.vc = b.vc := by
  have := compareV_zero a b
  rw [Bool.eq_iff_iff] at this
  simpa [eqI] using this
theorem compareV_trans {a b c : Item} (h1 : 0 ≤ compareV a b) (h2 : 0 ≤ compareV b c) : maxI (compareV a b) (compareV b c) ≤ compareV a c := by
  have l1 := compareV_lex a b
  have l2 := compareV_lex b c
  have l3 := compareV_lex a c
  have z1 := compareV_eq0 a b
  have z2 := compareV_eq0 b c
  have z3 := compareV_eq0 a c
  have c1 := compareV_cases a b
  have c2 := compareV_cases b c
  have c3 := compareV_cases a c
  unfold maxI
  split <;> omega
theorem sameI_refl {a : Item} (h : mayI a = true) : sameI a a = true := by
  unfold mayI at h
  simp only [Bool.and_eq_true] at h
  obtain ⟨_, _, _, hp⟩ := h
  obtain ⟨⟨w1, _⟩, ⟨w2, _⟩⟩ := placeB_ok hp
  unfold sameI
  rw [w1.self, w2.self, eqS_refl, eqS_refl, beq_selfB]
  simp [eqI]
end Go.Proofs.Ytijkfjahgijphaa
