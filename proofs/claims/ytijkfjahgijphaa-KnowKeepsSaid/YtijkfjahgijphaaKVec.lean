/- Counts of replicas (layer 6), the program's and the document's. -/
import Derived.Test.YtijkfjahgijphaaKKit
set_option linter.unusedVariables false
set_option linter.unusedSimpArgs false
set_option maxRecDepth 100000
set_option maxHeartbeats 4000000
namespace Go.Proofs.Ytijkfjahgijphaa
open Go E
structure V8 where
  x0 : Int
  x1 : Int
  x2 : Int
  x3 : Int
  x4 : Int
  x5 : Int
  x6 : Int
  x7 : Int
abbrev V8.cells (v : V8) : List C := [ic v.x0, ic v.x1, ic v.x2, ic v.x3, ic v.x4, ic v.x5, ic v.x6, ic v.x7]
abbrev V8.a (v : V8) : A := .agg v.cells
abbrev ver (r c : Int) : A := .agg [ic r, ic c]
def placeV (n : Int) : Int := if n < 1 ∨ 8 < n then -1 else n - 1
def V8.at (v : V8) (r : Int) : Int := if r = 1 then v.x0 else if r = 2 then v.x1 else if r = 3 then v.x2 else if r = 4 then v.x3 else if r = 5 then v.x4 else if r = 6 then v.x5 else if r = 7 then v.x6 else if r = 8 then v.x7 else 0
def V8.put (v : V8) (r c : Int) : V8 :=
  if r = 1 then { v with x0 := c } else if r = 2 then { v with x1 := c } else if r = 3 then { v with x2 := c } else if r = 4 then { v with x3 := c }
  else if r = 5 then { v with x4 := c } else if r = 6 then { v with x5 := c } else if r = 7 then { v with x6 := c } else if r = 8 then { v with x7 := c } else v
def hasV (v : V8) (r c : Int) : Bool := decide (1 ≤ r ∧ r ≤ 8 ∧ 1 ≤ c ∧ c ≤ v.at r)
def maxV (a b : V8) : V8 := ⟨maxI a.x0 b.x0, maxI a.x1 b.x1, maxI a.x2 b.x2, maxI a.x3 b.x3, maxI a.x4 b.x4, maxI a.x5 b.x5, maxI a.x6 b.x6, maxI a.x7 b.x7⟩
def withV (v : V8) (r c : Int) : V8 := v.put r (maxI (v.at r) c)
def eq8 (a b : V8) : Bool := andB (eqI a.x0 b.x0) (andB (eqI a.x1 b.x1) (andB (eqI a.x2 b.x2) (andB (eqI a.x3 b.x3) (andB (eqI a.x4 b.x4) (andB (eqI a.x5 b.x5) (andB (eqI a.x6 b.x6) (andB (eqI a.x7 b.x7) true)))))))
theorem r8 (r : Int) : (r < 1 ∨ 8 < r) ∨ r = 1 ∨ r = 2 ∨ r = 3 ∨ r = 4 ∨ r = 5 ∨ r = 6 ∨ r = 7 ∨ r = 8 := by omega
theorem vplace_ok {X : Task → Prop} (hX : Closed X) {n : Int} {Q : A → List Blk → Prop} (hQ : Q (iv (placeV n)) []) : X (.call 160 [iv n] [] Q) := by
  refine call_intro hX Try.func160 rfl rfl ?_
  repeat' ((conv => whnf); first | refine ⟨by kernel_rfl, ?_⟩ | refine eqv_id ?_ | refine Two.l ?_ | refine bct (by assumption) ?_ | refine bcf (by assumption) ?_ | refine bc (fun _ => ?_) (fun _ => ?_))
  all_goals (conv => whnf)
  all_goals (refine Qa hQ ?_; simp only [ltI_t, ltI_f] at *; unfold placeV)
  · rw [if_pos (by omega)]
  · rw [if_pos (by omega)]
  · rw [if_neg (by omega), wr64 (by omega) (by omega)]
theorem vmax_ok {X : Task → Prop} (hX : Closed X) {a b : V8} {Q : A → List Blk → Prop} (hQ : Q (maxV a b).a []) : X (.call 108 [a.a, b.a] [] Q) := by
  refine call_intro hX Try.func108 rfl rfl ?_
  repeat' ((conv => whnf); first | refine ⟨by kernel_rfl, ?_⟩ | refine eqv_id ?_ | refine Two.l ?_ | refine bct (by assumption) ?_ | refine bcf (by assumption) ?_ | refine bc (fun _ => ?_) (fun _ => ?_) | refine loop_intro hX ?_)
  exact hQ
theorem placeV_out {n : Int} (h : n < 1 ∨ 8 < n) : placeV n = -1 := if_pos h
theorem vhas_ok {X : Task → Prop} (hX : Closed X) {v : V8} {r c : Int} {Q : A → List Blk → Prop} (hQ : Q (bv (hasV v r c)) []) : X (.call 120 [v.a, ver r c] [] Q) := by
  refine call_intro hX Try.func120 rfl rfl ?_
  rcases r8 r with h | rfl | rfl | rfl | rfl | rfl | rfl | rfl | rfl
  · (conv => whnf)
    refine vplace_ok hX ?_
    rw [placeV_out h]
    repeat' ((conv => whnf); first | refine ⟨by kernel_rfl, ?_⟩ | refine eqv_id ?_ | refine Two.l ?_ | refine bct (by assumption) ?_ | refine bcf (by assumption) ?_ | refine bc (fun _ => ?_) (fun _ => ?_))
    (conv => whnf)
    refine Qb hQ ?_
    unfold hasV
    exact decide_eq_false (by omega)
  all_goals
    (conv => whnf)
    refine vplace_ok hX ?_
    repeat' ((conv => whnf); first | refine ⟨by kernel_rfl, ?_⟩ | refine eqv_id ?_ | refine Two.l ?_ | refine bct (by assumption) ?_ | refine bcf (by assumption) ?_ | refine bc (fun _ => ?_) (fun _ => ?_))
  all_goals (conv => whnf)
  all_goals refine Qb hQ ?_
  all_goals (simp only [leI_t, leI_f] at *; simp [hasV, V8.at, leI]; try omega)
theorem vwith_ok {X : Task → Prop} (hX : Closed X) {v : V8} {r c : Int} {Q : A → List Blk → Prop} (hQ : Q (withV v r c).a []) : X (.call 117 [v.a, ver r c] [] Q) := by
  refine call_intro hX Try.func117 rfl rfl ?_
  rcases r8 r with h | rfl | rfl | rfl | rfl | rfl | rfl | rfl | rfl
  · (conv => whnf)
    refine vplace_ok hX ?_
    rw [placeV_out h]
    repeat' ((conv => whnf); first | refine ⟨by kernel_rfl, ?_⟩ | refine eqv_id ?_ | refine Two.l ?_ | refine bct (by assumption) ?_ | refine bcf (by assumption) ?_ | refine bc (fun _ => ?_) (fun _ => ?_))
    (conv => whnf)
    refine Qa hQ ?_
    unfold withV V8.put
    rw [if_neg (by omega), if_neg (by omega), if_neg (by omega), if_neg (by omega), if_neg (by omega), if_neg (by omega), if_neg (by omega), if_neg (by omega)]
  all_goals
    (conv => whnf)
    refine vplace_ok hX ?_
    repeat' ((conv => whnf); first | refine ⟨by kernel_rfl, ?_⟩ | refine eqv_id ?_ | refine Two.l ?_ | refine bct (by assumption) ?_ | refine bcf (by assumption) ?_ | refine bc (fun _ => ?_) (fun _ => ?_))
  all_goals exact hQ
def mayV (v : V8) : Bool := decide ((0 ≤ v.x0 ∧ v.x0 ≤ 1000) ∧ (0 ≤ v.x1 ∧ v.x1 ≤ 1000) ∧ (0 ≤ v.x2 ∧ v.x2 ≤ 1000) ∧ (0 ≤ v.x3 ∧ v.x3 ≤ 1000) ∧ (0 ≤ v.x4 ∧ v.x4 ≤ 1000) ∧ (0 ≤ v.x5 ∧ v.x5 ≤ 1000) ∧ (0 ≤ v.x6 ∧ v.x6 ≤ 1000) ∧ (0 ≤ v.x7 ∧ v.x7 ≤ 1000))
theorem vmay_ok {X : Task → Prop} (hX : Closed X) {v : V8} {Q : A → List Blk → Prop} (hQ : Q (bv (mayV v)) []) : X (.call 124 [v.a] [] Q) := by
  refine call_intro hX Try.func124 rfl rfl ?_
  repeat' ((conv => whnf); first | refine ⟨by kernel_rfl, ?_⟩ | refine eqv_id ?_ | refine Two.l ?_ | refine bct (by assumption) ?_ | refine bcf (by assumption) ?_ | refine bc (fun _ => ?_) (fun _ => ?_) | refine loop_intro hX ?_)
  all_goals (conv => whnf)
  all_goals refine Qb hQ ?_
  all_goals (simp only [ltI_t, ltI_f] at *; unfold mayV; first | exact decide_eq_true (by omega) | exact decide_eq_false (by omega))
theorem maxI_comm (x y : Int) : maxI x y = maxI y x := by unfold maxI; split <;> split <;> omega
theorem le_maxI {x y z : Int} : z ≤ maxI x y ↔ z ≤ x ∨ z ≤ y := by unfold maxI; split <;> omega
theorem at_max (a b : V8) (r : Int) : (maxV a b).at r = maxI (a.at r) (b.at r) := by
  unfold V8.at maxV
  repeat' split
  all_goals first | rfl | simp [maxI]
theorem eq8_iff {a b : V8} : eq8 a b = true ↔ a.x0 = b.x0 ∧ a.x1 = b.x1 ∧ a.x2 = b.x2 ∧ a.x3 = b.x3 ∧ a.x4 = b.x4 ∧ a.x5 = b.x5 ∧ a.x6 = b.x6 ∧ a.x7 = b.x7 := by
  simp [eq8, andB, eqI]
theorem has_max (a b : V8) (r c : Int) : hasV (maxV a b) r c = (hasV a r c || hasV b r c) := by
  unfold hasV
  rw [at_max, Bool.eq_iff_iff]
  simp [le_maxI]
  omega
theorem at_put (v : V8) (r c : Int) (h : 1 ≤ r ∧ r ≤ 8) : (v.put r c).at r = c := by
  rcases r8 r with h' | rfl | rfl | rfl | rfl | rfl | rfl | rfl | rfl
  · omega
  all_goals simp [V8.put, V8.at]
theorem has_with (v : V8) (r c : Int) : hasV (withV v r c) r c = decide (1 ≤ r ∧ r ≤ 8 ∧ 1 ≤ c) := by
  unfold hasV withV
  by_cases h : 1 ≤ r ∧ r ≤ 8
  · rw [at_put _ _ _ h, Bool.eq_iff_iff]; simp [le_maxI]
  · rw [decide_eq_false (by omega), decide_eq_false (by omega)]
section
variable {X : Task → Prop} (hX : Closed X) {Q : A → List Blk → Prop}
include hX
end
section
variable {a b w c m : V8} {r n : Int}
end
set_option maxHeartbeats 1000000 in
theorem count_ok {X : Task → Prop} (hX : Closed X) {v : V8} {r : Int} {Q : A → List Blk → Prop} (hQ : Q (iv (v.at r)) []) : X (.call 129 [v.a, iv r] [] Q) := by
  refine call_intro hX Try.func129 rfl rfl ?_
  rcases r8 r with h | rfl | rfl | rfl | rfl | rfl | rfl | rfl | rfl
  · have e : v.at r = 0 := by
      unfold V8.at
      rw [if_neg (by omega), if_neg (by omega), if_neg (by omega), if_neg (by omega), if_neg (by omega), if_neg (by omega), if_neg (by omega), if_neg (by omega)]
    rw [e] at hQ
    repeat' ((conv => whnf); first | exact hQ | refine eqv_id ?_ | refine Two.l ?_ | refine ⟨by kernel_rfl, ?_⟩ | refine bct (by assumption) ?_ | refine bcf (by assumption) ?_ | refine bc (fun _ => ?_) (fun _ => ?_))
    all_goals (simp only [ltI_t, ltI_f] at *; omega)
  all_goals exact hQ
theorem hasVec_ok {X : Task → Prop} (hX : Closed X) {v : V8} {r c : Int} {Q : A → List Blk → Prop} (hQ : Q (bv (hasV v r c)) []) : X (.call 122 [v.a, ver r c] [] Q) := by
  refine call_intro hX Try.func122 rfl rfl ?_
  repeat' ((conv => whnf); first | refine ⟨by kernel_rfl, ?_⟩ | refine eqv_id ?_ | refine Two.l ?_ | refine bct (by assumption) ?_ | refine bcf (by assumption) ?_ | refine bc (fun _ => ?_) (fun _ => ?_) | refine count_ok hX ?_)
  all_goals (conv => whnf)
  all_goals refine Qb hQ ?_
  all_goals (simp only [leI_t, leI_f] at *; unfold hasV)
  · by_cases h : 1 ≤ r ∧ r ≤ 8
    · unfold leI; rw [Bool.eq_iff_iff]; simp; omega
    · have e : v.at r = 0 := by
        unfold V8.at
        rw [if_neg (by omega), if_neg (by omega), if_neg (by omega), if_neg (by omega), if_neg (by omega), if_neg (by omega), if_neg (by omega), if_neg (by omega)]
      rw [e, leI_f.2 (by omega)]; exact decide_eq_false (by omega)
  · exact decide_eq_false (by omega)
theorem withVec_ok {X : Task → Prop} (hX : Closed X) {v : V8} {r c : Int} {Q : A → List Blk → Prop} (hQ : Q (withV v r c).a []) : X (.call 119 [v.a, ver r c] [] Q) := by
  refine call_intro hX Try.func119 rfl rfl ?_
  rcases r8 r with h | rfl | rfl | rfl | rfl | rfl | rfl | rfl | rfl
  · repeat' ((conv => whnf); first | refine ⟨by kernel_rfl, ?_⟩ | refine eqv_id ?_ | refine Two.l ?_ | refine bct (by assumption) ?_ | refine bcf (by assumption) ?_ | refine bc (fun _ => ?_) (fun _ => ?_) | (simp only [ltI_t, ltI_f] at *; omega))
    all_goals (conv => whnf)
    all_goals (refine Qa hQ ?_; unfold withV V8.put; rw [if_neg (by omega), if_neg (by omega), if_neg (by omega), if_neg (by omega), if_neg (by omega), if_neg (by omega), if_neg (by omega), if_neg (by omega)])
  all_goals
    repeat' ((conv => whnf); first | refine ⟨by kernel_rfl, ?_⟩ | refine eqv_id ?_ | refine Two.l ?_ | refine bct (by assumption) ?_ | refine bcf (by assumption) ?_ | refine bc (fun _ => ?_) (fun _ => ?_))
  all_goals (conv => whnf)
  all_goals (refine Qa hQ ?_; simp only [leI_t, leI_f] at *; simp [withV, V8.put, V8.at, maxI]; omega)
theorem mayVec_ok {X : Task → Prop} (hX : Closed X) {v : V8} {Q : A → List Blk → Prop} (hQ : Q (bv (mayV v)) []) : X (.call 128 [v.a] [] Q) := by
  refine call_intro hX Try.func128 rfl rfl ?_
  repeat' ((conv => whnf); first | refine ⟨by kernel_rfl, ?_⟩ | refine eqv_id ?_ | refine Two.l ?_ | refine bct (by assumption) ?_ | refine bcf (by assumption) ?_ | refine bc (fun _ => ?_) (fun _ => ?_) | refine loop_intro hX ?_)
  all_goals (conv => whnf)
  all_goals refine Qb hQ ?_
  all_goals (simp only [ltI_t, ltI_f] at *; unfold mayV; first | exact decide_eq_true (by omega) | exact decide_eq_false (by omega))
section
variable {X : Task → Prop} (hX : Closed X) {a b : V8} {K : Ex → List A → List Blk → Prop}
include hX
abbrev refMaxAt (X : Task → Prop) (a b o : V8) (i : Int) (K : Ex → List A → List Blk → Prop) : Prop :=
  X (.loop 110 0 (loopN Try.f110 0) (pad [(2, .one (.ptr 0 0)), (0, .one (.ptr 1 0)), (0, .one (.ptr 2 0)), (0, .one (.ptr 3 0)), (0, iv i)] 22) [.box a.cells, .box b.cells, .box [ic 0, ic 0, ic 0, ic 0, ic 0, ic 0, ic 0, ic 0], .box o.cells] K)
abbrev refMaxEnd (a b o : V8) (K : Ex → List A → List Blk → Prop) : Prop :=
  K (.exit 0) (pad [(2, .one (.ptr 0 0)), (0, .one (.ptr 1 0)), (0, .one (.ptr 2 0)), (0, .one (.ptr 3 0)), (0, iv 8), (0, iv 8), (0, bv false)] 20) [.box a.cells, .box b.cells, .box [ic 0, ic 0, ic 0, ic 0, ic 0, ic 0, ic 0, ic 0], .box o.cells]
theorem refMax8 {o : V8} (h : refMaxEnd a b o K) : refMaxAt X a b o 8 K := by
  refine loop_intro hX ?_
  exact h
theorem refMax7 {o : V8} (h : refMaxEnd a b { o with x7 := maxI a.x7 b.x7 } K) : refMaxAt X a b o 7 K := by
  refine loop_intro hX ?_
  repeat' ((conv => whnf); first | refine ⟨by kernel_rfl, ?_⟩ | refine eqv_id ?_ | refine Two.l ?_ | refine bc (fun _ => ?_) (fun _ => ?_) | refine refMax8 hX (o := { o with x7 := b.x7 }) ?_ | refine refMax8 hX (o := { o with x7 := a.x7 }) ?_)
  · have e : maxI a.x7 b.x7 = b.x7 := by rw [ltI_t] at *; unfold maxI; rw [if_pos (by omega)]
    rw [e] at h; exact h
  · have e : maxI a.x7 b.x7 = a.x7 := by rw [ltI_f] at *; unfold maxI; rw [if_neg (by omega)]
    rw [e] at h; exact h
theorem refMax6 {o : V8} (h : refMaxEnd a b { o with x6 := maxI a.x6 b.x6, x7 := maxI a.x7 b.x7 } K) : refMaxAt X a b o 6 K := by
  refine loop_intro hX ?_
  repeat' ((conv => whnf); first | refine ⟨by kernel_rfl, ?_⟩ | refine eqv_id ?_ | refine Two.l ?_ | refine bc (fun _ => ?_) (fun _ => ?_) | refine refMax7 hX (o := { o with x6 := b.x6 }) ?_ | refine refMax7 hX (o := { o with x6 := a.x6 }) ?_)
  · have e : maxI a.x6 b.x6 = b.x6 := by rw [ltI_t] at *; unfold maxI; rw [if_pos (by omega)]
    rw [e] at h; exact h
  · have e : maxI a.x6 b.x6 = a.x6 := by rw [ltI_f] at *; unfold maxI; rw [if_neg (by omega)]
    rw [e] at h; exact h
theorem refMax5 {o : V8} (h : refMaxEnd a b { o with x5 := maxI a.x5 b.x5, x6 := maxI a.x6 b.x6, x7 := maxI a.x7 b.x7 } K) : refMaxAt X a b o 5 K := by
  refine loop_intro hX ?_
  repeat' ((conv => whnf); first | refine ⟨by kernel_rfl, ?_⟩ | refine eqv_id ?_ | refine Two.l ?_ | refine bc (fun _ => ?_) (fun _ => ?_) | refine refMax6 hX (o := { o with x5 := b.x5 }) ?_ | refine refMax6 hX (o := { o with x5 := a.x5 }) ?_)
  · have e : maxI a.x5 b.x5 = b.x5 := by rw [ltI_t] at *; unfold maxI; rw [if_pos (by omega)]
    rw [e] at h; exact h
  · have e : maxI a.x5 b.x5 = a.x5 := by rw [ltI_f] at *; unfold maxI; rw [if_neg (by omega)]
    rw [e] at h; exact h
theorem refMax4 {o : V8} (h : refMaxEnd a b { o with x4 := maxI a.x4 b.x4, x5 := maxI a.x5 b.x5, x6 := maxI a.x6 b.x6, x7 := maxI a.x7 b.x7 } K) : refMaxAt X a b o 4 K := by
  refine loop_intro hX ?_
  repeat' ((conv => whnf); first | refine ⟨by kernel_rfl, ?_⟩ | refine eqv_id ?_ | refine Two.l ?_ | refine bc (fun _ => ?_) (fun _ => ?_) | refine refMax5 hX (o := { o with x4 := b.x4 }) ?_ | refine refMax5 hX (o := { o with x4 := a.x4 }) ?_)
  · have e : maxI a.x4 b.x4 = b.x4 := by rw [ltI_t] at *; unfold maxI; rw [if_pos (by omega)]
    rw [e] at h; exact h
  · have e : maxI a.x4 b.x4 = a.x4 := by rw [ltI_f] at *; unfold maxI; rw [if_neg (by omega)]
    rw [e] at h; exact h
theorem refMax3 {o : V8} (h : refMaxEnd a b { o with x3 := maxI a.x3 b.x3, x4 := maxI a.x4 b.x4, x5 := maxI a.x5 b.x5, x6 := maxI a.x6 b.x6, x7 := maxI a.x7 b.x7 } K) : refMaxAt X a b o 3 K := by
  refine loop_intro hX ?_
  repeat' ((conv => whnf); first | refine ⟨by kernel_rfl, ?_⟩ | refine eqv_id ?_ | refine Two.l ?_ | refine bc (fun _ => ?_) (fun _ => ?_) | refine refMax4 hX (o := { o with x3 := b.x3 }) ?_ | refine refMax4 hX (o := { o with x3 := a.x3 }) ?_)
  · have e : maxI a.x3 b.x3 = b.x3 := by rw [ltI_t] at *; unfold maxI; rw [if_pos (by omega)]
    rw [e] at h; exact h
  · have e : maxI a.x3 b.x3 = a.x3 := by rw [ltI_f] at *; unfold maxI; rw [if_neg (by omega)]
    rw [e] at h; exact h
theorem refMax2 {o : V8} (h : refMaxEnd a b { o with x2 := maxI a.x2 b.x2, x3 := maxI a.x3 b.x3, x4 := maxI a.x4 b.x4, x5 := maxI a.x5 b.x5, x6 := maxI a.x6 b.x6, x7 := maxI a.x7 b.x7 } K) : refMaxAt X a b o 2 K := by
  refine loop_intro hX ?_
  repeat' ((conv => whnf); first | refine ⟨by kernel_rfl, ?_⟩ | refine eqv_id ?_ | refine Two.l ?_ | refine bc (fun _ => ?_) (fun _ => ?_) | refine refMax3 hX (o := { o with x2 := b.x2 }) ?_ | refine refMax3 hX (o := { o with x2 := a.x2 }) ?_)
  · have e : maxI a.x2 b.x2 = b.x2 := by rw [ltI_t] at *; unfold maxI; rw [if_pos (by omega)]
    rw [e] at h; exact h
  · have e : maxI a.x2 b.x2 = a.x2 := by rw [ltI_f] at *; unfold maxI; rw [if_neg (by omega)]
    rw [e] at h; exact h
theorem refMax1 {o : V8} (h : refMaxEnd a b { o with x1 := maxI a.x1 b.x1, x2 := maxI a.x2 b.x2, x3 := maxI a.x3 b.x3, x4 := maxI a.x4 b.x4, x5 := maxI a.x5 b.x5, x6 := maxI a.x6 b.x6, x7 := maxI a.x7 b.x7 } K) : refMaxAt X a b o 1 K := by
  refine loop_intro hX ?_
  repeat' ((conv => whnf); first | refine ⟨by kernel_rfl, ?_⟩ | refine eqv_id ?_ | refine Two.l ?_ | refine bc (fun _ => ?_) (fun _ => ?_) | refine refMax2 hX (o := { o with x1 := b.x1 }) ?_ | refine refMax2 hX (o := { o with x1 := a.x1 }) ?_)
  · have e : maxI a.x1 b.x1 = b.x1 := by rw [ltI_t] at *; unfold maxI; rw [if_pos (by omega)]
    rw [e] at h; exact h
  · have e : maxI a.x1 b.x1 = a.x1 := by rw [ltI_f] at *; unfold maxI; rw [if_neg (by omega)]
    rw [e] at h; exact h
theorem refMax0 {o : V8} (h : refMaxEnd a b { o with x0 := maxI a.x0 b.x0, x1 := maxI a.x1 b.x1, x2 := maxI a.x2 b.x2, x3 := maxI a.x3 b.x3, x4 := maxI a.x4 b.x4, x5 := maxI a.x5 b.x5, x6 := maxI a.x6 b.x6, x7 := maxI a.x7 b.x7 } K) : refMaxAt X a b o 0 K := by
  refine loop_intro hX ?_
  repeat' ((conv => whnf); first | refine ⟨by kernel_rfl, ?_⟩ | refine eqv_id ?_ | refine Two.l ?_ | refine bc (fun _ => ?_) (fun _ => ?_) | refine refMax1 hX (o := { o with x0 := b.x0 }) ?_ | refine refMax1 hX (o := { o with x0 := a.x0 }) ?_)
  · have e : maxI a.x0 b.x0 = b.x0 := by rw [ltI_t] at *; unfold maxI; rw [if_pos (by omega)]
    rw [e] at h; exact h
  · have e : maxI a.x0 b.x0 = a.x0 := by rw [ltI_f] at *; unfold maxI; rw [if_neg (by omega)]
    rw [e] at h; exact h
theorem refMax_ok {Q : A → List Blk → Prop} (hQ : Q (maxV a b).a []) : X (.call 110 [a.a, b.a] [] Q) := by
  refine call_intro hX Try.func110 rfl rfl ?_
  (conv => whnf)
  refine refMax0 hX (o := ⟨0, 0, 0, 0, 0, 0, 0, 0⟩) ?_
  exact hQ
end
end Go.Proofs.Ytijkfjahgijphaa
