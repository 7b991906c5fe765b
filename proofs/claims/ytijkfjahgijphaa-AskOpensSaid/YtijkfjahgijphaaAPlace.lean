/- Places (layer 1): what each function computes, the program's and the document's. -/
import Derived.Test.YtijkfjahgijphaaATrunc
set_option linter.unusedVariables false
set_option linter.unusedSimpArgs false
set_option maxRecDepth 100000
set_option maxHeartbeats 4000000
namespace Go.Proofs.Ytijkfjahgijphaa
open Go E
def placeB (re im : Nat) : Bool := isW re && isW im
def farV (a b c d : Nat) : Int := if placeB a b && placeB c d then (toIV .f64 a - toIV .f64 c) * (toIV .f64 a - toIV .f64 c) + (toIV .f64 b - toIV .f64 d) * (toIV .f64 b - toIV .f64 d) else -1
def nearB (a b c d : Nat) (n : Int) : Bool := decide (0 ≤ farV a b c d ∧ farV a b c d ≤ n)
theorem eq_cm : Ieee.double.nearest true 1000 0 = 13875379345695965184 := by kernel_rfl
theorem eq_cp : Ieee.double.nearest false 1000 0 = 4652007308841189376 := by kernel_rfl
theorem cm_lit : cm = 13875379345695965184 := eq_cm
theorem cp_lit : cp = 4652007308841189376 := eq_cp
theorem isW_def (x : Nat) : isW x = ((gtFl .f64 x 13875379345695965184 || eqFl .f64 x 13875379345695965184) && ((ltFl .f64 x 4652007308841189376 || eqFl .f64 x 4652007308841189376) && eqFl .f64 x (trW x))) := by
  unfold isW; rw [cm_lit, cp_lit]
theorem range_ok' {x : Nat} (h1 : (gtFl .f64 x 13875379345695965184 || eqFl .f64 x 13875379345695965184) = true) (h2 : (ltFl .f64 x 4652007308841189376 || eqFl .f64 x 4652007308841189376) = true) :
    toIOk .f64 x .i64 = true ∧ -1000 ≤ toIV .f64 x ∧ toIV .f64 x ≤ 1000 ∧ eqFl .f64 (ofI .f64 (toIV .f64 x)) x = eqFl .f64 x (trW x) ∧ (eqFl .f64 x (trW x) = true → Wh x (toIV .f64 x)) :=
  range_ok (by rw [cm_lit]; exact h1) (by rw [cp_lit]; exact h2)
theorem part_ok {X : Task → Prop} (hX : Closed X) {x : Nat} {Q : A → List Blk → Prop} (hQ : Q (bv (isW x)) []) : X (.call 151 [fv x] [] Q) := by
  refine call_intro hX Try.func151 rfl rfl ?_
  cases h1 : (gtFl .f64 x 13875379345695965184 || eqFl .f64 x 13875379345695965184) <;> cases h2 : (ltFl .f64 x 4652007308841189376 || eqFl .f64 x 4652007308841189376)
  all_goals
     repeat' ((conv => whnf); first | refine ⟨by kernel_rfl, ?_⟩ | refine bct (by assumption) ?_ | refine bcf (by assumption) ?_ | refine bct (nf (by assumption)) ?_ | refine bcf (nt (by assumption)) ?_ | refine bct (range_ok' (by assumption) (by assumption)).1 ?_)
  all_goals (conv => whnf)
  all_goals (refine Qb hQ ?_; rw [isW_def]; simp only [*, Bool.true_and, Bool.false_and, Bool.and_false])
  exact (range_ok' (by assumption) (by assumption)).2.2.2.1.symm
theorem ref_place_ok {X : Task → Prop} (hX : Closed X) {x y : Nat} {Q : A → List Blk → Prop} (hQ : Q (bv (placeB x y)) []) : X (.call 107 [cv x y] [] Q) := by
  refine call_intro hX Try.func107 rfl rfl ?_
  repeat' ((conv => whnf); first | refine ⟨by kernel_rfl, ?_⟩ | refine part_ok hX ?_ | refine bct (by assumption) ?_ | refine bcf (by assumption) ?_ | refine bc (fun _ => ?_) (fun _ => ?_))
  all_goals (conv => whnf)
  all_goals (refine Qb hQ ?_; unfold placeB; simp only [*, Bool.true_and, Bool.false_and, Bool.and_false])
theorem sq_nn (a : Int) : 0 ≤ a * a := by
  rcases Int.le_total 0 a with h | h
  · exact Int.mul_nonneg h h
  · exact Int.mul_nonneg_of_nonpos_of_nonpos h h
theorem sq_le {a M : Int} (h1 : -M ≤ a) (h2 : a ≤ M) : a * a ≤ M * M := by
  have h3 : 0 ≤ (M - a) * (M + a) := Int.mul_nonneg (by omega) (by omega)
  have h4 : (M - a) * (M + a) = M * M - a * a := by rw [Int.sub_mul, Int.mul_add, Int.mul_add, Int.mul_comm a M]; omega
  omega
theorem wr_sq {a : Int} (h1 : -2000 ≤ a) (h2 : a ≤ 2000) : wr .i64 (a * a) = a * a := by
  have := sq_nn a
  have := sq_le h1 h2
  exact wr64 (by omega) (by omega)
theorem wr_sqs {a b : Int} (h1 : -2000 ≤ a) (h2 : a ≤ 2000) (h3 : -2000 ≤ b) (h4 : b ≤ 2000) : wr .i64 (wr .i64 (a * a) + wr .i64 (b * b)) = a * a + b * b := by
  have := sq_nn a
  have := sq_le h1 h2
  have := sq_nn b
  have := sq_le h3 h4
  rw [wr_sq h1 h2, wr_sq h3 h4]
  exact wr64 (by omega) (by omega)
theorem far_true {a b c d : Nat} (h1 : placeB a b = true) (h2 : placeB c d = true) : farV a b c d = (toIV .f64 a - toIV .f64 c) * (toIV .f64 a - toIV .f64 c) + (toIV .f64 b - toIV .f64 d) * (toIV .f64 b - toIV .f64 d) := by
  unfold farV; rw [h1, h2]; rfl
theorem far_f1 {a b c d : Nat} (h1 : placeB a b = false) : farV a b c d = -1 := by unfold farV; rw [h1]; rfl
theorem far_f2 {a b c d : Nat} (h1 : placeB c d = false) : farV a b c d = -1 := by unfold farV; rw [h1, Bool.and_false]; rfl
theorem placeB_ok {a b : Nat} (h : placeB a b = true) : (Wh a (toIV .f64 a) ∧ -1000 ≤ toIV .f64 a ∧ toIV .f64 a ≤ 1000 ∧ toIOk .f64 a .i64 = true) ∧ (Wh b (toIV .f64 b) ∧ -1000 ≤ toIV .f64 b ∧ toIV .f64 b ≤ 1000 ∧ toIOk .f64 b .i64 = true) := by
  unfold placeB at h; rw [Bool.and_eq_true] at h; exact ⟨isW_ok h.1, isW_ok h.2⟩
theorem ref_far_ok {X : Task → Prop} (hX : Closed X) {a b c d : Nat} {Q : A → List Blk → Prop} (hQ : Q (iv (farV a b c d)) []) : X (.call 91 [cv a b, cv c d] [] Q) := by
  refine call_intro hX Try.func91 rfl rfl ?_
  cases h1 : placeB a b with
  | false =>
    repeat' ((conv => whnf); first | refine ⟨by kernel_rfl, ?_⟩ | (refine ref_place_ok hX ?_; try rw [h1]))
    exact Qi hQ (far_f1 h1)
  | true =>
    cases h2 : placeB c d with
    | false =>
      repeat' ((conv => whnf); first | refine ⟨by kernel_rfl, ?_⟩ | (refine ref_place_ok hX ?_; first | rw [h1] | rw [h2]))
      exact Qi hQ (far_f2 h2)
    | true =>
      obtain ⟨⟨_, l1, u1, o1⟩, ⟨_, l2, u2, o2⟩⟩ := placeB_ok h1
      obtain ⟨⟨_, l3, u3, o3⟩, ⟨_, l4, u4, o4⟩⟩ := placeB_ok h2
      repeat' ((conv => whnf); first | refine ⟨by kernel_rfl, ?_⟩ | (refine ref_place_ok hX ?_; first | rw [h1] | rw [h2]) | refine bct (by assumption) ?_)
      refine Qi hQ ?_
      rw [far_true h1 h2, wr64 (n := toIV .f64 a - toIV .f64 c) (by omega) (by omega), wr64 (n := toIV .f64 b - toIV .f64 d) (by omega) (by omega), wr_sqs (by omega) (by omega) (by omega) (by omega)]
attribute [irreducible] placeB farV nearB
end Go.Proofs.Ytijkfjahgijphaa
