/- The statements of layer 1, walked. -/
import Derived.Test.YtjapbanelfcjhaaPlace
set_option linter.unusedVariables false
set_option linter.unusedSimpArgs false
set_option maxRecDepth 100000
namespace Go.Proofs.Ytjapbanelfcjhaa
open Go E
theorem brec_self (b : Bool) : (@Bool.rec (fun _ => Bool) (!b) b b) = true := by cases b <;> rfl
theorem up1_ok {X : Task → Prop} (hX : Closed X) {Q : A → List Blk → Prop} (hQ : Q (bv true) []) : X (.call 51 [] [] Q) := by
  refine call_intro hX Try.func51 rfl rfl ?_
  have q1 : farV 0 0 4613937818241073152 4616189618054758400 = 25 := by kernel_rfl
  have q2 : placeB 4652007308841189376 13875379345695965184 = true := by kernel_rfl
  have q3 : nearB 0 0 4607182418800017408 0 1 = true := by kernel_rfl
  repeat' ((conv => whnf); first | exact hQ | refine ⟨by kernel_rfl, ?_⟩ | (refine place_far_ok hX ?_; rw [q1]) | (refine place_may_ok hX ?_; rw [q2]) | (refine near_ok hX ?_; rw [q3]))
theorem farB (a b c d : Nat) : (leI 0 (farV a b c d)) = (placeB a b && placeB c d) := by
  cases h1 : placeB a b with
  | false => rw [far_f1 h1]; rfl
  | true => cases h2 : placeB c d with
    | false => rw [far_f2 h2]; rfl
    | true =>
      rw [far_true h1 h2]
      exact leI_t.2 (Int.add_nonneg (sq_nn _) (sq_nn _))
theorem nearB_eq (a b c d : Nat) (n : Int) : nearB a b c d n = (leI 0 (farV a b c d) && leI (farV a b c d) n) := by
  unfold nearB leI; rw [Bool.decide_and]
theorem law_placeTells {X : Task → Prop} (hX : Closed X) {a b c d : Nat} {n : Int} (hn : -9223372036854775808 ≤ n ∧ n ≤ 9223372036854775807) {Q : A → List Blk → Prop} (hQ : Q (bv true) []) : X (.call 9 [fv a, fv b, fv c, fv d, iv n] [] Q) := by
  refine call_intro hX Try.func9 rfl rfl ?_
  have q1 : eqI (farV a b c d) (farV a b c d) = true := by simp [eqI]
  have q2 := nearB_eq a b c d n
  repeat' ((conv => whnf); first
    | (refine Qb hQ ?_; rw [q2]; cases h8 : leI 0 (farV a b c d) <;> cases h9 : leI (farV a b c d) n <;> simp_all; done)
    | refine ⟨by kernel_rfl, ?_⟩ | refine up1_ok hX ?_ | refine ref_far_ok hX ?_ | refine place_far_ok hX ?_ | refine place_may_ok hX ?_ | refine ref_place_ok hX ?_ | refine near_ok hX ?_
    | refine bct (brec_self _) ?_ | refine bct (by assumption) ?_ | refine bcf (by assumption) ?_ | refine bc (fun _ => ?_) (fun _ => ?_))
theorem sq_swap (x y : Int) : (y - x) * (y - x) = (x - y) * (x - y) := by
  rw [show y - x = -(x - y) by omega, Int.neg_mul_neg]
theorem tri_sq (u w : Int) : (u + w) * (u + w) ≤ 2 * (u * u + w * w) := by
  have h := sq_nn (u - w)
  have e1 : (u - w) * (u - w) = u * u - u * w - (w * u - w * w) := by rw [Int.sub_mul, Int.mul_sub, Int.mul_sub]
  have e2 : (u + w) * (u + w) = u * u + u * w + (w * u + w * w) := by rw [Int.add_mul, Int.mul_add, Int.mul_add]
  have e3 : w * u = u * w := Int.mul_comm w u
  omega
section
variable {a b c d e f : Nat} (h1 : placeB a b = true) (h2 : placeB c d = true) (h3 : placeB e f = true)
include h1 h2
theorem far_sym : farV c d a b = farV a b c d := by
  rw [far_true h1 h2, far_true h2 h1, sq_swap (toIV .f64 a) (toIV .f64 c), sq_swap (toIV .f64 b) (toIV .f64 d)]
theorem far_bound : 0 ≤ farV a b c d ∧ farV a b c d ≤ 8000000 := by
  obtain ⟨⟨_, l1, u1, _⟩, ⟨_, l2, u2, _⟩⟩ := placeB_ok h1
  obtain ⟨⟨_, l3, u3, _⟩, ⟨_, l4, u4, _⟩⟩ := placeB_ok h2
  rw [far_true h1 h2]
  have k1 := sq_nn (toIV .f64 a - toIV .f64 c)
  have k2 := sq_nn (toIV .f64 b - toIV .f64 d)
  have k3 := sq_le (a := toIV .f64 a - toIV .f64 c) (M := 2000) (by omega) (by omega)
  have k4 := sq_le (a := toIV .f64 b - toIV .f64 d) (M := 2000) (by omega) (by omega)
  omega
theorem add_ok : (arOk .add .f64 a c && arOk .add .f64 b d) = true ∧ Wh (arV .add .f64 a c) (toIV .f64 a + toIV .f64 c) ∧ Wh (arV .add .f64 b d) (toIV .f64 b + toIV .f64 d) := by
  obtain ⟨⟨w1, l1, u1, _⟩, ⟨w2, l2, u2, _⟩⟩ := placeB_ok h1
  obtain ⟨⟨w3, l3, u3, _⟩, ⟨w4, l4, u4, _⟩⟩ := placeB_ok h2
  obtain ⟨o1, v1⟩ := wh_add w1 w3 (by omega)
  obtain ⟨o2, v2⟩ := wh_add w2 w4 (by omega)
  exact ⟨by rw [o1, o2]; rfl, v1, v2⟩
include h3
theorem far_tri : farV a b c d ≤ 2 * (farV a b e f + farV e f c d) := by
  rw [far_true h1 h2, far_true h1 h3, far_true h3 h2]
  have t1 := tri_sq (toIV .f64 a - toIV .f64 e) (toIV .f64 e - toIV .f64 c)
  have t2 := tri_sq (toIV .f64 b - toIV .f64 f) (toIV .f64 f - toIV .f64 d)
  rw [show toIV .f64 a - toIV .f64 e + (toIV .f64 e - toIV .f64 c) = toIV .f64 a - toIV .f64 c by omega] at t1
  rw [show toIV .f64 b - toIV .f64 f + (toIV .f64 f - toIV .f64 d) = toIV .f64 b - toIV .f64 d by omega] at t2
  omega
theorem far_move (p1 : placeB (arV .add .f64 a e) (arV .add .f64 b f) = true) (p2 : placeB (arV .add .f64 c e) (arV .add .f64 d f) = true) : farV (arV .add .f64 a e) (arV .add .f64 b f) (arV .add .f64 c e) (arV .add .f64 d f) = farV a b c d := by
  obtain ⟨_, w1, w2⟩ := add_ok h1 h3
  obtain ⟨_, w3, w4⟩ := add_ok h2 h3
  rw [far_true p1 p2, far_true h1 h2, w1.toIV, w2.toIV, w3.toIV, w4.toIV]
  rw [show toIV .f64 a + toIV .f64 e - (toIV .f64 c + toIV .f64 e) = toIV .f64 a - toIV .f64 c by omega, show toIV .f64 b + toIV .f64 f - (toIV .f64 d + toIV .f64 f) = toIV .f64 b - toIV .f64 d by omega]
end
theorem far_self {a b : Nat} (h : placeB a b = true) : farV a b a b = 0 := by rw [far_true h h]; simp
set_option maxHeartbeats 4000000 in
theorem law_placeMoves {X : Task → Prop} (hX : Closed X) {a b c d e f : Nat} {Q : A → List Blk → Prop} (hQ : Q (bv true) []) : X (.call 10 [fv a, fv b, fv c, fv d, fv e, fv f] [] Q) := by
  refine call_intro hX Try.func10 rfl rfl ?_
  have q0 := farB a b c d
  by_cases hall : placeB a b = true ∧ placeB c d = true ∧ placeB e f = true
  · obtain ⟨ha, hc, he⟩ := hall
    obtain ⟨l1, u1⟩ := far_bound ha hc
    obtain ⟨l2, u2⟩ := far_bound ha he
    obtain ⟨l3, u3⟩ := far_bound he hc
    have t := far_tri ha hc he
    have q1 : ltI (farV a b c d) 0 = false := ltI_f.2 l1
    have q2 : eqI (farV c d a b) (farV a b c d) = true := by rw [far_sym ha hc]; simp [eqI]
    have q3 : eqI (farV a b a b) 0 = true := by rw [far_self ha]; rfl
    have q4 := (add_ok ha he).1
    have q5 := (add_ok hc he).1
    have q6 : leI (farV a b c d) (wr .i64 (2 * wr .i64 (farV a b e f + farV e f c d))) = true := by
      rw [wr64 (n := farV a b e f + farV e f c d) (by omega) (by omega), wr64 (by omega) (by omega)]; exact leI_t.2 t
    have q7 : nearB a b c d (farV a b c d) = true := by rw [nearB_eq]; simp [leI]; omega
    have q8 : nearB a b c d (wr .i64 (farV a b c d - 1)) = false := by rw [nearB_eq, wr64 (by omega) (by omega)]; simp [leI]; omega
    cases p1 : placeB (arV .add .f64 a e) (arV .add .f64 b f) <;> cases p2 : placeB (arV .add .f64 c e) (arV .add .f64 d f)
    all_goals
      have q9 : placeB (arV .add .f64 a e) (arV .add .f64 b f) = true → placeB (arV .add .f64 c e) (arV .add .f64 d f) = true → eqI (farV (arV .add .f64 a e) (arV .add .f64 b f) (arV .add .f64 c e) (arV .add .f64 d f)) (farV a b c d) = true := fun p1 p2 => by rw [far_move ha hc he p1 p2]; simp [eqI]
      repeat' ((conv => whnf); first
        | exact hQ
        | refine ⟨by kernel_rfl, ?_⟩ | refine up1_ok hX ?_ | (refine place_may_ok hX ?_; first | rw [ha] | rw [hc] | rw [he] | rw [p1] | rw [p2]) | refine place_far_ok hX ?_ | (refine near_ok hX ?_; first | rw [q7] | rw [q8])
        | refine bct (by assumption) ?_ | refine bcf (by assumption) ?_ | refine bcf (nt (by assumption)) ?_ | refine bct (nf (by assumption)) ?_ | refine bcf (nt (q9 (by assumption) (by assumption))) ?_)
  · cases ha : placeB a b <;> cases hc : placeB c d <;> cases he : placeB e f <;> simp [ha, hc, he] at hall
    all_goals rw [ha, hc] at q0
    all_goals
        repeat' ((conv => whnf); first
          | exact hQ
          | exact Qb hQ (by rw [q0]; rfl)
          | refine ⟨by kernel_rfl, ?_⟩ | refine up1_ok hX ?_ | (refine place_may_ok hX ?_; first | rw [ha] | rw [hc] | rw [he]) | refine place_far_ok hX ?_
          | refine bct (by assumption) ?_ | refine bcf (by assumption) ?_)
end Go.Proofs.Ytjapbanelfcjhaa
