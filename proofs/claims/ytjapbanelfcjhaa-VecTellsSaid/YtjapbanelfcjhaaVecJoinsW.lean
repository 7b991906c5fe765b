/- VecJoins: what the law computes is true. -/
import Derived.Test.YtjapbanelfcjhaaVec
set_option linter.unusedVariables false
set_option linter.unusedSimpArgs false
set_option maxRecDepth 100000
namespace Go.Proofs.Ytjapbanelfcjhaa
open Go E
theorem maxI_comm (x y : Int) : maxI x y = maxI y x := by unfold maxI; split <;> split <;> omega
theorem le_maxI {x y z : Int} : z ≤ maxI x y ↔ z ≤ x ∨ z ≤ y := by unfold maxI; split <;> omega
theorem maxI_le {x y z : Int} : maxI x y ≤ z ↔ x ≤ z ∧ y ≤ z := by unfold maxI; split <;> omega
theorem maxI_eq {x y : Int} : maxI x y = y ↔ x ≤ y := by unfold maxI; split <;> omega
theorem at_max (a b : V8) (r : Int) : (maxV a b).at r = maxI (a.at r) (b.at r) := by
  unfold V8.at maxV
  repeat' split
  all_goals first | rfl | simp [maxI]
theorem eq8_iff {a b : V8} : eq8 a b = true ↔ a.x0 = b.x0 ∧ a.x1 = b.x1 ∧ a.x2 = b.x2 ∧ a.x3 = b.x3 ∧ a.x4 = b.x4 ∧ a.x5 = b.x5 ∧ a.x6 = b.x6 ∧ a.x7 = b.x7 := by
  simp [eq8, andB, eqI]
theorem inV_iff {a b : V8} : inV a b = true ↔ a.x0 ≤ b.x0 ∧ a.x1 ≤ b.x1 ∧ a.x2 ≤ b.x2 ∧ a.x3 ≤ b.x3 ∧ a.x4 ≤ b.x4 ∧ a.x5 ≤ b.x5 ∧ a.x6 ≤ b.x6 ∧ a.x7 ≤ b.x7 := by
  simp [inV, eq8_iff, maxV, maxI_eq]
theorem inV_at {a b : V8} (h : inV a b = true) (r : Int) : a.at r ≤ b.at r := by
  rw [inV_iff] at h
  unfold V8.at
  repeat' split
  all_goals omega
theorem has_max (a b : V8) (r c : Int) : hasV (maxV a b) r c = (hasV a r c || hasV b r c) := by
  unfold hasV
  rw [at_max, Bool.eq_iff_iff]
  simp [le_maxI]
  omega
theorem eq_max (a b : V8) : eq8 (maxV a b) (maxV b a) = true := by rw [eq8_iff]; simp [maxV, maxI_comm]
theorem in_max1 (a b : V8) : inV a (maxV a b) = true := by
  rw [inV_iff]; simp only [maxV, le_maxI]; omega
theorem in_max2 (a b : V8) : inV b (maxV a b) = true := by
  rw [inV_iff]; simp only [maxV, le_maxI]; omega
theorem in_max3 {a b c : V8} (h1 : inV a c = true) (h2 : inV b c = true) : inV (maxV a b) c = true := by
  rw [inV_iff] at *; simp only [maxV, maxI_le]; omega
theorem in_has {a b : V8} {r c : Int} (h1 : inV a b = true) (h2 : hasV a r c = true) : hasV b r c = true := by
  have := inV_at h1 r
  simp [hasV] at *; omega
theorem at_put (v : V8) (r c : Int) (h : 1 ≤ r ∧ r ≤ 8) : (v.put r c).at r = c := by
  rcases r8 r with h' | rfl | rfl | rfl | rfl | rfl | rfl | rfl | rfl
  · omega
  all_goals simp [V8.put, V8.at]
theorem has_with (v : V8) (r c : Int) : hasV (withV v r c) r c = decide (1 ≤ r ∧ r ≤ 8 ∧ 1 ≤ c) := by
  unfold hasV withV
  by_cases h : 1 ≤ r ∧ r ≤ 8
  · rw [at_put _ _ _ h, Bool.eq_iff_iff]; simp [le_maxI]
  · rw [decide_eq_false (by omega), decide_eq_false (by omega)]
theorem in_with (v : V8) (r c : Int) : inV v (withV v r c) = true := by
  rw [inV_iff]
  rcases r8 r with h' | rfl | rfl | rfl | rfl | rfl | rfl | rfl | rfl
  · unfold withV V8.put
    rw [if_neg (by omega), if_neg (by omega), if_neg (by omega), if_neg (by omega), if_neg (by omega), if_neg (by omega), if_neg (by omega), if_neg (by omega)]
    omega
  all_goals simp [withV, V8.put, V8.at, le_maxI]
theorem with_with (v : V8) (r c : Int) : eq8 (withV (withV v r c) r c) (withV v r c) = true := by
  rw [eq8_iff]
  rcases r8 r with h' | rfl | rfl | rfl | rfl | rfl | rfl | rfl | rfl
  · unfold withV V8.put
    rw [if_neg (by omega), if_neg (by omega), if_neg (by omega), if_neg (by omega), if_neg (by omega), if_neg (by omega), if_neg (by omega), if_neg (by omega)]
    simp
  all_goals simp [withV, V8.put, V8.at]; unfold maxI; repeat' split <;> omega
section
variable {X : Task → Prop} (hX : Closed X) {Q : A → List Blk → Prop}
include hX
theorem has_known {v : V8} {r c : Int} {b : Bool} (h : hasV v r c = b) (hQ : Q (bv b) []) : X (.call 32 [v.a, ver r c] [] Q) := has_ok hX (h ▸ hQ)
theorem in_known {u v : V8} {b : Bool} (h : inV u v = b) (hQ : Q (bv b) []) : X (.call 38 [u.a, v.a] [] Q) := in_ok hX (h ▸ hQ)
theorem max_known {u v m : V8} (h : maxV u v = m) (hQ : Q m.a []) : X (.call 36 [u.a, v.a] [] Q) := max_ok hX (h ▸ hQ)
theorem with_known {u m : V8} {r c : Int} (h : withV u r c = m) (hQ : Q m.a []) : X (.call 34 [u.a, ver r c] [] Q) := with_ok hX (h ▸ hQ)
theorem has_split {v : V8} {r c : Int} (h1 : hasV v r c = true → Q (bv true) []) (h2 : hasV v r c = false → Q (bv false) []) : X (.call 32 [v.a, ver r c] [] Q) :=
  has_ok hX (by cases h : hasV v r c with | true => exact h1 h | false => exact h2 h)
theorem in_split {a b : V8} (h1 : inV a b = true → Q (bv true) []) (h2 : inV a b = false → Q (bv false) []) : X (.call 38 [a.a, b.a] [] Q) :=
  in_ok hX (by cases h : inV a b with | true => exact h1 h | false => exact h2 h)
theorem has_max_split {a b m : V8} {r c : Int} (hm : maxV a b = m) (h1 : hasV a r c = true → Q (bv true) []) (h2 : hasV a r c = false → hasV b r c = true → Q (bv true) []) (h3 : hasV a r c = false → hasV b r c = false → Q (bv false) []) : X (.call 32 [m.a, ver r c] [] Q) :=
  has_ok hX (by
    rw [← hm, has_max]
    cases ha : hasV a r c with
    | true => exact h1 ha
    | false => cases hb : hasV b r c with
      | true => exact h2 ha hb
      | false => exact h3 ha hb)
end
section
variable {a b w c m : V8} {r n : Int}
theorem has_with_t (hw : withV a r n = w) (h1 : leI 1 r = true) (h2 : leI r 8 = true) (h3 : leI 1 n = true) : hasV w r n = true := by
  rw [← hw, has_with]; exact decide_eq_true ⟨leI_t.1 h1, leI_t.1 h2, leI_t.1 h3⟩
theorem has_with_f1 (hw : withV a r n = w) (h1 : leI 1 r = false) : hasV w r n = false := by
  rw [← hw, has_with]; exact decide_eq_false (by rw [leI_f] at h1; omega)
theorem has_with_f2 (hw : withV a r n = w) (h1 : leI r 8 = false) : hasV w r n = false := by
  rw [← hw, has_with]; exact decide_eq_false (by rw [leI_f] at h1; omega)
theorem has_with_f3 (hw : withV a r n = w) (h1 : leI 1 n = false) : hasV w r n = false := by
  rw [← hw, has_with]; exact decide_eq_false (by rw [leI_f] at h1; omega)
theorem has_with_n (hw : withV a r n = w) (h1 : leI 1 r = true) (h2 : leI r 8 = true) : hasV w r n = leI 1 n := by
  rw [← hw, has_with]; rw [leI_t] at *; simp [leI, h1, h2]
theorem in_max3' (hm : maxV a b = m) (h1 : inV a c = true) (h2 : inV b c = true) : inV m c = true := hm ▸ in_max3 h1 h2
end
set_option maxHeartbeats 1000000 in
theorem joins_ok {X : Task → Prop} (hX : Closed X) {a b c : V8} {r n : Int} {Q : A → List Blk → Prop} (hQ : Q (bv true) []) : X (.call 7 [a.a, b.a, c.a, ver r n] [] Q) := by
  obtain ⟨m, hm⟩ : ∃ m, maxV a b = m := ⟨_, rfl⟩
  obtain ⟨m', hm'⟩ : ∃ m, maxV b a = m := ⟨_, rfl⟩
  obtain ⟨w, hw⟩ : ∃ m, withV a r n = m := ⟨_, rfl⟩
  obtain ⟨w', hw'⟩ : ∃ m, withV w r n = m := ⟨_, rfl⟩
  have e1 : eq8 m m' = true := by rw [← hm, ← hm']; exact eq_max a b
  have e2 : eq8 w' w = true := by rw [← hw', ← hw]; exact with_with a r n
  have e3 : inV a m = true := hm ▸ in_max1 a b
  have e4 : inV b m = true := hm ▸ in_max2 a b
  have e5 : inV a w = true := hw ▸ in_with a r n
  refine call_intro hX Try.func7 rfl rfl ?_
  apply merge
  intro tail
  repeat' ((conv => whnf); first
    | exact hQ
    | refine rest_id tail
    | refine ⟨by kernel_rfl, ?_⟩
    | refine up_ok hX ?_ | refine max_known hX hm ?_ | refine max_known hX hm' ?_ | refine with_known hX hw ?_ | refine with_known hX hw' ?_
    | refine has_known hX (by assumption) ?_
    | refine has_known hX (in_has (a := a) (b := b) (by assumption) (by assumption)) ?_
    | refine has_known hX (has_with_n hw (by assumption) (by assumption)) ?_
    | refine has_known hX (has_with_f1 hw (by assumption)) ?_
    | refine has_known hX (has_with_f2 hw (by assumption)) ?_
    | refine has_max_split hX hm (fun _ => ?_) (fun _ _ => ?_) (fun _ _ => ?_)
    | refine in_known hX (by assumption) ?_
    | refine in_known hX (in_max3' (c := c) hm (by assumption) (by assumption)) ?_
    | refine has_split hX (fun _ => ?_) (fun _ => ?_)
    | refine in_split hX (fun _ => ?_) (fun _ => ?_)
    | exact Qb hQ e2.symm
    | refine bct (beq_self _) ?_ | refine bct (by assumption) ?_ | refine bcf (by assumption) ?_ | refine bcf (nt (by assumption)) ?_ | refine bct (nf (by assumption)) ?_ | refine bc (fun _ => ?_) (fun _ => ?_))
  refine rest_intro hX ?_
  apply merge
  intro tail
  repeat' ((conv => whnf); first
    | exact hQ
    | refine rest_id tail
    | refine ⟨by kernel_rfl, ?_⟩
    | refine up_ok hX ?_ | refine max_known hX hm ?_ | refine max_known hX hm' ?_ | refine with_known hX hw ?_ | refine with_known hX hw' ?_
    | refine has_known hX (by assumption) ?_
    | refine has_known hX (in_has (a := a) (b := b) (by assumption) (by assumption)) ?_
    | refine has_known hX (has_with_n hw (by assumption) (by assumption)) ?_
    | refine has_known hX (has_with_f1 hw (by assumption)) ?_
    | refine has_known hX (has_with_f2 hw (by assumption)) ?_
    | refine has_max_split hX hm (fun _ => ?_) (fun _ _ => ?_) (fun _ _ => ?_)
    | refine in_known hX (by assumption) ?_
    | refine in_known hX (in_max3' (c := c) hm (by assumption) (by assumption)) ?_
    | refine has_split hX (fun _ => ?_) (fun _ => ?_)
    | refine in_split hX (fun _ => ?_) (fun _ => ?_)
    | exact Qb hQ e2.symm
    | refine bct (beq_self _) ?_ | refine bct (by assumption) ?_ | refine bcf (by assumption) ?_ | refine bcf (nt (by assumption)) ?_ | refine bct (nf (by assumption)) ?_ | refine bc (fun _ => ?_) (fun _ => ?_))
  refine rest_intro hX ?_
  repeat' ((conv => whnf); first
    | exact hQ
    | refine ⟨by kernel_rfl, ?_⟩
    | refine up_ok hX ?_ | refine max_known hX hm ?_ | refine max_known hX hm' ?_ | refine with_known hX hw ?_ | refine with_known hX hw' ?_
    | refine has_known hX (by assumption) ?_
    | refine has_known hX (in_has (a := a) (b := b) (by assumption) (by assumption)) ?_
    | refine has_known hX (has_with_n hw (by assumption) (by assumption)) ?_
    | refine has_known hX (has_with_f1 hw (by assumption)) ?_
    | refine has_known hX (has_with_f2 hw (by assumption)) ?_
    | refine has_max_split hX hm (fun _ => ?_) (fun _ _ => ?_) (fun _ _ => ?_)
    | refine in_known hX (by assumption) ?_
    | refine in_known hX (in_max3' (c := c) hm (by assumption) (by assumption)) ?_
    | refine has_split hX (fun _ => ?_) (fun _ => ?_)
    | refine in_split hX (fun _ => ?_) (fun _ => ?_)
    | exact Qb hQ e2.symm
    | refine bct (beq_self _) ?_ | refine bct (by assumption) ?_ | refine bcf (by assumption) ?_ | refine bcf (nt (by assumption)) ?_ | refine bct (nf (by assumption)) ?_ | refine bc (fun _ => ?_) (fun _ => ?_))
end Go.Proofs.Ytjapbanelfcjhaa
