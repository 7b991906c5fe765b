/- The document's answer for counts: what each function computes. -/
import Derived.Test.YtjapbanelfcjhaaVecJoinsW
set_option linter.unusedVariables false
set_option linter.unusedSimpArgs false
set_option maxRecDepth 100000
namespace Go.Proofs.Ytjapbanelfcjhaa
open Go E
theorem count_ok {X : Task → Prop} (hX : Closed X) {v : V8} {r : Int} {Q : A → List Blk → Prop} (hQ : Q (iv (v.at r)) []) : X (.call 88 [v.a, iv r] [] Q) := by
  refine call_intro hX Try.func88 rfl rfl ?_
  rcases r8 r with h | rfl | rfl | rfl | rfl | rfl | rfl | rfl | rfl
  · have e : v.at r = 0 := by
      unfold V8.at
      rw [if_neg (by omega), if_neg (by omega), if_neg (by omega), if_neg (by omega), if_neg (by omega), if_neg (by omega), if_neg (by omega), if_neg (by omega)]
    rw [e] at hQ
    repeat' ((conv => whnf); first | exact hQ | refine ⟨by kernel_rfl, ?_⟩ | refine bct (by assumption) ?_ | refine bcf (by assumption) ?_ | refine bc (fun _ => ?_) (fun _ => ?_))
    all_goals (simp only [ltI_t, ltI_f] at *; omega)
  all_goals exact hQ
theorem hasVec_ok {X : Task → Prop} (hX : Closed X) {v : V8} {r c : Int} {Q : A → List Blk → Prop} (hQ : Q (bv (hasV v r c)) []) : X (.call 33 [v.a, ver r c] [] Q) := by
  refine call_intro hX Try.func33 rfl rfl ?_
  repeat' ((conv => whnf); first | refine ⟨by kernel_rfl, ?_⟩ | refine bct (by assumption) ?_ | refine bcf (by assumption) ?_ | refine bc (fun _ => ?_) (fun _ => ?_) | refine count_ok hX ?_)
  all_goals (conv => whnf)
  all_goals refine Qb hQ ?_
  all_goals (simp only [leI_t, leI_f] at *; unfold hasV)
  · by_cases h : 1 ≤ r ∧ r ≤ 8
    · unfold leI; rw [Bool.eq_iff_iff]; simp; omega
    · have e : v.at r = 0 := by
        unfold V8.at
        rw [if_neg (by omega), if_neg (by omega), if_neg (by omega), if_neg (by omega), if_neg (by omega), if_neg (by omega), if_neg (by omega), if_neg (by omega)]
      rw [e, leI_f.2 (by omega)]; exact decide_eq_false (by omega)
  · exact decide_eq_false (by omega)
theorem withVec_ok {X : Task → Prop} (hX : Closed X) {v : V8} {r c : Int} {Q : A → List Blk → Prop} (hQ : Q (withV v r c).a []) : X (.call 35 [v.a, ver r c] [] Q) := by
  refine call_intro hX Try.func35 rfl rfl ?_
  rcases r8 r with h | rfl | rfl | rfl | rfl | rfl | rfl | rfl | rfl
  · repeat' ((conv => whnf); first | refine ⟨by kernel_rfl, ?_⟩ | refine bct (by assumption) ?_ | refine bcf (by assumption) ?_ | refine bc (fun _ => ?_) (fun _ => ?_) | (simp only [ltI_t, ltI_f] at *; omega))
    all_goals (conv => whnf)
    all_goals (refine Qa hQ ?_; unfold withV V8.put; rw [if_neg (by omega), if_neg (by omega), if_neg (by omega), if_neg (by omega), if_neg (by omega), if_neg (by omega), if_neg (by omega), if_neg (by omega)])
  all_goals
    repeat' ((conv => whnf); first | refine ⟨by kernel_rfl, ?_⟩ | refine bct (by assumption) ?_ | refine bcf (by assumption) ?_ | refine bc (fun _ => ?_) (fun _ => ?_))
  all_goals (conv => whnf)
  all_goals (refine Qa hQ ?_; simp only [leI_t, leI_f] at *; simp [withV, V8.put, V8.at, maxI]; omega)
theorem inVec_ok {X : Task → Prop} (hX : Closed X) {a b : V8} {Q : A → List Blk → Prop} (hQ : Q (bv (inV a b)) []) : X (.call 39 [a.a, b.a] [] Q) := by
  refine call_intro hX Try.func39 rfl rfl ?_
  repeat' ((conv => whnf); first | refine ⟨by kernel_rfl, ?_⟩ | refine bct (by assumption) ?_ | refine bcf (by assumption) ?_ | refine bc (fun _ => ?_) (fun _ => ?_) | refine loop_intro hX ?_)
  all_goals (conv => whnf)
  all_goals refine Qb hQ ?_
  all_goals (simp only [ltI_t, ltI_f] at *; first | (rw [inV_iff]; omega) | (rw [Bool.eq_false_iff, ne_eq, inV_iff]; omega))
theorem mayVec_ok {X : Task → Prop} (hX : Closed X) {v : V8} {Q : A → List Blk → Prop} (hQ : Q (bv (mayV v)) []) : X (.call 41 [v.a] [] Q) := by
  refine call_intro hX Try.func41 rfl rfl ?_
  repeat' ((conv => whnf); first | refine ⟨by kernel_rfl, ?_⟩ | refine bct (by assumption) ?_ | refine bcf (by assumption) ?_ | refine bc (fun _ => ?_) (fun _ => ?_) | refine loop_intro hX ?_)
  all_goals (conv => whnf)
  all_goals refine Qb hQ ?_
  all_goals (simp only [ltI_t, ltI_f] at *; unfold mayV; first | exact decide_eq_true (by omega) | exact decide_eq_false (by omega))
section
variable {X : Task → Prop} (hX : Closed X) {a b : V8} {K : Ex → List A → List Blk → Prop}
include hX
abbrev refMaxAt (X : Task → Prop) (a b o : V8) (i : Int) (K : Ex → List A → List Blk → Prop) : Prop :=
  X (.loop 37 0 (loopN Try.f37 0) (pad [(2, .one (.ptr 0 0)), (0, .one (.ptr 1 0)), (0, .one (.ptr 2 0)), (0, .one (.ptr 3 0)), (0, iv i)] 22) [.box a.cells, .box b.cells, .box [ic 0, ic 0, ic 0, ic 0, ic 0, ic 0, ic 0, ic 0], .box o.cells] K)
abbrev refMaxEnd (a b o : V8) (K : Ex → List A → List Blk → Prop) : Prop :=
  K (.exit 0) (pad [(2, .one (.ptr 0 0)), (0, .one (.ptr 1 0)), (0, .one (.ptr 2 0)), (0, .one (.ptr 3 0)), (0, iv 8), (0, iv 8), (0, bv false)] 20) [.box a.cells, .box b.cells, .box [ic 0, ic 0, ic 0, ic 0, ic 0, ic 0, ic 0, ic 0], .box o.cells]
theorem refMax8 {o : V8} (h : refMaxEnd a b o K) : refMaxAt X a b o 8 K := by
  refine loop_intro hX ?_
  exact h
theorem refMax7 {o : V8} (h : refMaxEnd a b { o with x7 := maxI a.x7 b.x7 } K) : refMaxAt X a b o 7 K := by
  refine loop_intro hX ?_
  repeat' ((conv => whnf); first | refine ⟨by kernel_rfl, ?_⟩ | refine bc (fun _ => ?_) (fun _ => ?_) | refine refMax8 hX (o := { o with x7 := b.x7 }) ?_ | refine refMax8 hX (o := { o with x7 := a.x7 }) ?_)
  · have e : maxI a.x7 b.x7 = b.x7 := by rw [ltI_t] at *; unfold maxI; rw [if_pos (by omega)]
    rw [e] at h; exact h
  · have e : maxI a.x7 b.x7 = a.x7 := by rw [ltI_f] at *; unfold maxI; rw [if_neg (by omega)]
    rw [e] at h; exact h
theorem refMax6 {o : V8} (h : refMaxEnd a b { o with x6 := maxI a.x6 b.x6, x7 := maxI a.x7 b.x7 } K) : refMaxAt X a b o 6 K := by
  refine loop_intro hX ?_
  repeat' ((conv => whnf); first | refine ⟨by kernel_rfl, ?_⟩ | refine bc (fun _ => ?_) (fun _ => ?_) | refine refMax7 hX (o := { o with x6 := b.x6 }) ?_ | refine refMax7 hX (o := { o with x6 := a.x6 }) ?_)
  · have e : maxI a.x6 b.x6 = b.x6 := by rw [ltI_t] at *; unfold maxI; rw [if_pos (by omega)]
    rw [e] at h; exact h
  · have e : maxI a.x6 b.x6 = a.x6 := by rw [ltI_f] at *; unfold maxI; rw [if_neg (by omega)]
    rw [e] at h; exact h
theorem refMax5 {o : V8} (h : refMaxEnd a b { o with x5 := maxI a.x5 b.x5, x6 := maxI a.x6 b.x6, x7 := maxI a.x7 b.x7 } K) : refMaxAt X a b o 5 K := by
  refine loop_intro hX ?_
  repeat' ((conv => whnf); first | refine ⟨by kernel_rfl, ?_⟩ | refine bc (fun _ => ?_) (fun _ => ?_) | refine refMax6 hX (o := { o with x5 := b.x5 }) ?_ | refine refMax6 hX (o := { o with x5 := a.x5 }) ?_)
  · have e : maxI a.x5 b.x5 = b.x5 := by rw [ltI_t] at *; unfold maxI; rw [if_pos (by omega)]
    rw [e] at h; exact h
  · have e : maxI a.x5 b.x5 = a.x5 := by rw [ltI_f] at *; unfold maxI; rw [if_neg (by omega)]
    rw [e] at h; exact h
theorem refMax4 {o : V8} (h : refMaxEnd a b { o with x4 := maxI a.x4 b.x4, x5 := maxI a.x5 b.x5, x6 := maxI a.x6 b.x6, x7 := maxI a.x7 b.x7 } K) : refMaxAt X a b o 4 K := by
  refine loop_intro hX ?_
  repeat' ((conv => whnf); first | refine ⟨by kernel_rfl, ?_⟩ | refine bc (fun _ => ?_) (fun _ => ?_) | refine refMax5 hX (o := { o with x4 := b.x4 }) ?_ | refine refMax5 hX (o := { o with x4 := a.x4 }) ?_)
  · have e : maxI a.x4 b.x4 = b.x4 := by rw [ltI_t] at *; unfold maxI; rw [if_pos (by omega)]
    rw [e] at h; exact h
  · have e : maxI a.x4 b.x4 = a.x4 := by rw [ltI_f] at *; unfold maxI; rw [if_neg (by omega)]
    rw [e] at h; exact h
theorem refMax3 {o : V8} (h : refMaxEnd a b { o with x3 := maxI a.x3 b.x3, x4 := maxI a.x4 b.x4, x5 := maxI a.x5 b.x5, x6 := maxI a.x6 b.x6, x7 := maxI a.x7 b.x7 } K) : refMaxAt X a b o 3 K := by
  refine loop_intro hX ?_
  repeat' ((conv => whnf); first | refine ⟨by kernel_rfl, ?_⟩ | refine bc (fun _ => ?_) (fun _ => ?_) | refine refMax4 hX (o := { o with x3 := b.x3 }) ?_ | refine refMax4 hX (o := { o with x3 := a.x3 }) ?_)
  · have e : maxI a.x3 b.x3 = b.x3 := by rw [ltI_t] at *; unfold maxI; rw [if_pos (by omega)]
    rw [e] at h; exact h
  · have e : maxI a.x3 b.x3 = a.x3 := by rw [ltI_f] at *; unfold maxI; rw [if_neg (by omega)]
    rw [e] at h; exact h
theorem refMax2 {o : V8} (h : refMaxEnd a b { o with x2 := maxI a.x2 b.x2, x3 := maxI a.x3 b.x3, x4 := maxI a.x4 b.x4, x5 := maxI a.x5 b.x5, x6 := maxI a.x6 b.x6, x7 := maxI a.x7 b.x7 } K) : refMaxAt X a b o 2 K := by
  refine loop_intro hX ?_
  repeat' ((conv => whnf); first | refine ⟨by kernel_rfl, ?_⟩ | refine bc (fun _ => ?_) (fun _ => ?_) | refine refMax3 hX (o := { o with x2 := b.x2 }) ?_ | refine refMax3 hX (o := { o with x2 := a.x2 }) ?_)
  · have e : maxI a.x2 b.x2 = b.x2 := by rw [ltI_t] at *; unfold maxI; rw [if_pos (by omega)]
    rw [e] at h; exact h
  · have e : maxI a.x2 b.x2 = a.x2 := by rw [ltI_f] at *; unfold maxI; rw [if_neg (by omega)]
    rw [e] at h; exact h
theorem refMax1 {o : V8} (h : refMaxEnd a b { o with x1 := maxI a.x1 b.x1, x2 := maxI a.x2 b.x2, x3 := maxI a.x3 b.x3, x4 := maxI a.x4 b.x4, x5 := maxI a.x5 b.x5, x6 := maxI a.x6 b.x6, x7 := maxI a.x7 b.x7 } K) : refMaxAt X a b o 1 K := by
  refine loop_intro hX ?_
  repeat' ((conv => whnf); first | refine ⟨by kernel_rfl, ?_⟩ | refine bc (fun _ => ?_) (fun _ => ?_) | refine refMax2 hX (o := { o with x1 := b.x1 }) ?_ | refine refMax2 hX (o := { o with x1 := a.x1 }) ?_)
  · have e : maxI a.x1 b.x1 = b.x1 := by rw [ltI_t] at *; unfold maxI; rw [if_pos (by omega)]
    rw [e] at h; exact h
  · have e : maxI a.x1 b.x1 = a.x1 := by rw [ltI_f] at *; unfold maxI; rw [if_neg (by omega)]
    rw [e] at h; exact h
theorem refMax0 {o : V8} (h : refMaxEnd a b { o with x0 := maxI a.x0 b.x0, x1 := maxI a.x1 b.x1, x2 := maxI a.x2 b.x2, x3 := maxI a.x3 b.x3, x4 := maxI a.x4 b.x4, x5 := maxI a.x5 b.x5, x6 := maxI a.x6 b.x6, x7 := maxI a.x7 b.x7 } K) : refMaxAt X a b o 0 K := by
  refine loop_intro hX ?_
  repeat' ((conv => whnf); first | refine ⟨by kernel_rfl, ?_⟩ | refine bc (fun _ => ?_) (fun _ => ?_) | refine refMax1 hX (o := { o with x0 := b.x0 }) ?_ | refine refMax1 hX (o := { o with x0 := a.x0 }) ?_)
  · have e : maxI a.x0 b.x0 = b.x0 := by rw [ltI_t] at *; unfold maxI; rw [if_pos (by omega)]
    rw [e] at h; exact h
  · have e : maxI a.x0 b.x0 = a.x0 := by rw [ltI_f] at *; unfold maxI; rw [if_neg (by omega)]
    rw [e] at h; exact h
theorem refMax_ok {Q : A → List Blk → Prop} (hQ : Q (maxV a b).a []) : X (.call 37 [a.a, b.a] [] Q) := by
  refine call_intro hX Try.func37 rfl rfl ?_
  (conv => whnf)
  refine refMax0 hX (o := ⟨0, 0, 0, 0, 0, 0, 0, 0⟩) ?_
  exact hQ
end
end Go.Proofs.Ytjapbanelfcjhaa
