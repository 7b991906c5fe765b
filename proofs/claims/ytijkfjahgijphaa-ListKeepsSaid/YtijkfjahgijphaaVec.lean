/- Counts of replicas (layer 6), the program's and the document's. -/
import Derived.Test.YtijkfjahgijphaaKit
set_option linter.unusedVariables false
set_option linter.unusedSimpArgs false
set_option maxRecDepth 100000
set_option maxHeartbeats 4000000
namespace Go.Proofs.Ytijkfjahgijphaa
open Go E
structure V8 where
  x0 : Int
  x1 : Int
  x2 : Int
  x3 : Int
  x4 : Int
  x5 : Int
  x6 : Int
  x7 : Int
abbrev V8.cells (v : V8) : List C := [ic v.x0, ic v.x1, ic v.x2, ic v.x3, ic v.x4, ic v.x5, ic v.x6, ic v.x7]
abbrev V8.a (v : V8) : A := .agg v.cells
abbrev ver (r c : Int) : A := .agg [ic r, ic c]
def placeV (n : Int) : Int := if n < 1 ∨ 8 < n then -1 else n - 1
def V8.at (v : V8) (r : Int) : Int := if r = 1 then v.x0 else if r = 2 then v.x1 else if r = 3 then v.x2 else if r = 4 then v.x3 else if r = 5 then v.x4 else if r = 6 then v.x5 else if r = 7 then v.x6 else if r = 8 then v.x7 else 0
def V8.put (v : V8) (r c : Int) : V8 :=
  if r = 1 then { v with x0 := c } else if r = 2 then { v with x1 := c } else if r = 3 then { v with x2 := c } else if r = 4 then { v with x3 := c }
  else if r = 5 then { v with x4 := c } else if r = 6 then { v with x5 := c } else if r = 7 then { v with x6 := c } else if r = 8 then { v with x7 := c } else v
def hasV (v : V8) (r c : Int) : Bool := decide (1 ≤ r ∧ r ≤ 8 ∧ 1 ≤ c ∧ c ≤ v.at r)
def maxV (a b : V8) : V8 := ⟨maxI a.x0 b.x0, maxI a.x1 b.x1, maxI a.x2 b.x2, maxI a.x3 b.x3, maxI a.x4 b.x4, maxI a.x5 b.x5, maxI a.x6 b.x6, maxI a.x7 b.x7⟩
def withV (v : V8) (r c : Int) : V8 := v.put r (maxI (v.at r) c)
def eq8 (a b : V8) : Bool := andB (eqI a.x0 b.x0) (andB (eqI a.x1 b.x1) (andB (eqI a.x2 b.x2) (andB (eqI a.x3 b.x3) (andB (eqI a.x4 b.x4) (andB (eqI a.x5 b.x5) (andB (eqI a.x6 b.x6) (andB (eqI a.x7 b.x7) true)))))))
def inV (a b : V8) : Bool := eq8 (maxV a b) b
theorem r8 (r : Int) : (r < 1 ∨ 8 < r) ∨ r = 1 ∨ r = 2 ∨ r = 3 ∨ r = 4 ∨ r = 5 ∨ r = 6 ∨ r = 7 ∨ r = 8 := by omega

theorem vplace_ok {X : Task → Prop} (hX : Closed X) {n : Int} {Q : A → List Blk → Prop} (hQ : Q (iv (placeV n)) []) : X (.call 160 [iv n] [] Q) := by
  refine call_intro hX Try.func160 rfl rfl ?_
  repeat' ((conv => whnf); first | refine ⟨by kernel_rfl, ?_⟩ | refine eqv_id ?_ | refine Two.l ?_ | refine bct (by assumption) ?_ | refine bcf (by assumption) ?_ | refine bc (fun _ => ?_) (fun _ => ?_))
  all_goals (conv => whnf)
  all_goals (refine Qa hQ ?_; simp only [ltI_t, ltI_f] at *; unfold placeV)
  · rw [if_pos (by omega)]
  · rw [if_pos (by omega)]
  · rw [if_neg (by omega), wr64 (by omega) (by omega)]
theorem vmax_ok {X : Task → Prop} (hX : Closed X) {a b : V8} {Q : A → List Blk → Prop} (hQ : Q (maxV a b).a []) : X (.call 108 [a.a, b.a] [] Q) := by
  refine call_intro hX Try.func108 rfl rfl ?_
  repeat' ((conv => whnf); first | refine ⟨by kernel_rfl, ?_⟩ | refine eqv_id ?_ | refine Two.l ?_ | refine bct (by assumption) ?_ | refine bcf (by assumption) ?_ | refine bc (fun _ => ?_) (fun _ => ?_) | refine loop_intro hX ?_)
  exact hQ
theorem placeV_out {n : Int} (h : n < 1 ∨ 8 < n) : placeV n = -1 := if_pos h
theorem vhas_ok {X : Task → Prop} (hX : Closed X) {v : V8} {r c : Int} {Q : A → List Blk → Prop} (hQ : Q (bv (hasV v r c)) []) : X (.call 120 [v.a, ver r c] [] Q) := by
  refine call_intro hX Try.func120 rfl rfl ?_
  rcases r8 r with h | rfl | rfl | rfl | rfl | rfl | rfl | rfl | rfl
  · (conv => whnf)
    refine vplace_ok hX ?_
    rw [placeV_out h]
    repeat' ((conv => whnf); first | refine ⟨by kernel_rfl, ?_⟩ | refine eqv_id ?_ | refine Two.l ?_ | refine bct (by assumption) ?_ | refine bcf (by assumption) ?_ | refine bc (fun _ => ?_) (fun _ => ?_))
    (conv => whnf)
    refine Qb hQ ?_
    unfold hasV
    exact decide_eq_false (by omega)
  all_goals
    (conv => whnf)
    refine vplace_ok hX ?_
    repeat' ((conv => whnf); first | refine ⟨by kernel_rfl, ?_⟩ | refine eqv_id ?_ | refine Two.l ?_ | refine bct (by assumption) ?_ | refine bcf (by assumption) ?_ | refine bc (fun _ => ?_) (fun _ => ?_))
  all_goals (conv => whnf)
  all_goals refine Qb hQ ?_
  all_goals (simp only [leI_t, leI_f] at *; simp [hasV, V8.at, leI]; try omega)
theorem vwith_ok {X : Task → Prop} (hX : Closed X) {v : V8} {r c : Int} {Q : A → List Blk → Prop} (hQ : Q (withV v r c).a []) : X (.call 117 [v.a, ver r c] [] Q) := by
  refine call_intro hX Try.func117 rfl rfl ?_
  rcases r8 r with h | rfl | rfl | rfl | rfl | rfl | rfl | rfl | rfl
  · (conv => whnf)
    refine vplace_ok hX ?_
    rw [placeV_out h]
    repeat' ((conv => whnf); first | refine ⟨by kernel_rfl, ?_⟩ | refine eqv_id ?_ | refine Two.l ?_ | refine bct (by assumption) ?_ | refine bcf (by assumption) ?_ | refine bc (fun _ => ?_) (fun _ => ?_))
    (conv => whnf)
    refine Qa hQ ?_
    unfold withV V8.put
    rw [if_neg (by omega), if_neg (by omega), if_neg (by omega), if_neg (by omega), if_neg (by omega), if_neg (by omega), if_neg (by omega), if_neg (by omega)]
  all_goals
    (conv => whnf)
    refine vplace_ok hX ?_
    repeat' ((conv => whnf); first | refine ⟨by kernel_rfl, ?_⟩ | refine eqv_id ?_ | refine Two.l ?_ | refine bct (by assumption) ?_ | refine bcf (by assumption) ?_ | refine bc (fun _ => ?_) (fun _ => ?_))
  all_goals exact hQ
def mayV (v : V8) : Bool := decide ((0 ≤ v.x0 ∧ v.x0 ≤ 1000) ∧ (0 ≤ v.x1 ∧ v.x1 ≤ 1000) ∧ (0 ≤ v.x2 ∧ v.x2 ≤ 1000) ∧ (0 ≤ v.x3 ∧ v.x3 ≤ 1000) ∧ (0 ≤ v.x4 ∧ v.x4 ≤ 1000) ∧ (0 ≤ v.x5 ∧ v.x5 ≤ 1000) ∧ (0 ≤ v.x6 ∧ v.x6 ≤ 1000) ∧ (0 ≤ v.x7 ∧ v.x7 ≤ 1000))
theorem vmay_ok {X : Task → Prop} (hX : Closed X) {v : V8} {Q : A → List Blk → Prop} (hQ : Q (bv (mayV v)) []) : X (.call 124 [v.a] [] Q) := by
  refine call_intro hX Try.func124 rfl rfl ?_
  repeat' ((conv => whnf); first | refine ⟨by kernel_rfl, ?_⟩ | refine eqv_id ?_ | refine Two.l ?_ | refine bct (by assumption) ?_ | refine bcf (by assumption) ?_ | refine bc (fun _ => ?_) (fun _ => ?_) | refine loop_intro hX ?_)
  all_goals (conv => whnf)
  all_goals refine Qb hQ ?_
  all_goals (simp only [ltI_t, ltI_f] at *; unfold mayV; first | exact decide_eq_true (by omega) | exact decide_eq_false (by omega))
theorem maxI_comm (x y : Int) : maxI x y = maxI y x := by unfold maxI; split <;> split <;> omega
theorem le_maxI {x y z : Int} : z ≤ maxI x y ↔ z ≤ x ∨ z ≤ y := by unfold maxI; split <;> omega
theorem maxI_le {x y z : Int} : maxI x y ≤ z ↔ x ≤ z ∧ y ≤ z := by unfold maxI; split <;> omega
theorem maxI_eq {x y : Int} : maxI x y = y ↔ x ≤ y := by unfold maxI; split <;> omega
theorem at_max (a b : V8) (r : Int) : (maxV a b).at r = maxI (a.at r) (b.at r) := by
  unfold V8.at maxV
  repeat' split
  all_goals first | rfl | simp [maxI]
theorem eq8_iff {a b : V8} : eq8 a b = true ↔ a.x0 = b.x0 ∧ a.x1 = b.x1 ∧ a.x2 = b.x2 ∧ a.x3 = b.x3 ∧ a.x4 = b.x4 ∧ a.x5 = b.x5 ∧ a.x6 = b.x6 ∧ a.x7 = b.x7 := by
  simp [eq8, andB, eqI]
theorem inV_iff {a b : V8} : inV a b = true ↔ a.x0 ≤ b.x0 ∧ a.x1 ≤ b.x1 ∧ a.x2 ≤ b.x2 ∧ a.x3 ≤ b.x3 ∧ a.x4 ≤ b.x4 ∧ a.x5 ≤ b.x5 ∧ a.x6 ≤ b.x6 ∧ a.x7 ≤ b.x7 := by
  simp [inV, eq8_iff, maxV, maxI_eq]
theorem inV_at {a b : V8} (h : inV a b = true) (r : Int) : a.at r ≤ b.at r := by
  rw [inV_iff] at h
  unfold V8.at
  repeat' split
  all_goals omega
theorem has_max (a b : V8) (r c : Int) : hasV (maxV a b) r c = (hasV a r c || hasV b r c) := by
  unfold hasV
  rw [at_max, Bool.eq_iff_iff]
  simp [le_maxI]
  omega
theorem eq_max (a b : V8) : eq8 (maxV a b) (maxV b a) = true := by rw [eq8_iff]; simp [maxV, maxI_comm]
theorem in_max1 (a b : V8) : inV a (maxV a b) = true := by
  rw [inV_iff]; simp only [maxV, le_maxI]; omega
theorem in_max2 (a b : V8) : inV b (maxV a b) = true := by
  rw [inV_iff]; simp only [maxV, le_maxI]; omega
theorem in_max3 {a b c : V8} (h1 : inV a c = true) (h2 : inV b c = true) : inV (maxV a b) c = true := by
  rw [inV_iff] at *; simp only [maxV, maxI_le]; omega
theorem in_has {a b : V8} {r c : Int} (h1 : inV a b = true) (h2 : hasV a r c = true) : hasV b r c = true := by
  have := inV_at h1 r
  simp [hasV] at *; omega
theorem at_put (v : V8) (r c : Int) (h : 1 ≤ r ∧ r ≤ 8) : (v.put r c).at r = c := by
  rcases r8 r with h' | rfl | rfl | rfl | rfl | rfl | rfl | rfl | rfl
  · omega
  all_goals simp [V8.put, V8.at]
theorem has_with (v : V8) (r c : Int) : hasV (withV v r c) r c = decide (1 ≤ r ∧ r ≤ 8 ∧ 1 ≤ c) := by
  unfold hasV withV
  by_cases h : 1 ≤ r ∧ r ≤ 8
  · rw [at_put _ _ _ h, Bool.eq_iff_iff]; simp [le_maxI]
  · rw [decide_eq_false (by omega), decide_eq_false (by omega)]
theorem in_with (v : V8) (r c : Int) : inV v (withV v r c) = true := by
  rw [inV_iff]
  rcases r8 r with h' | rfl | rfl | rfl | rfl | rfl | rfl | rfl | rfl
  · unfold withV V8.put
    rw [if_neg (by omega), if_neg (by omega), if_neg (by omega), if_neg (by omega), if_neg (by omega), if_neg (by omega), if_neg (by omega), if_neg (by omega)]
    omega
  all_goals simp [withV, V8.put, V8.at, le_maxI]
theorem with_with (v : V8) (r c : Int) : eq8 (withV (withV v r c) r c) (withV v r c) = true := by
  rw [eq8_iff]
  rcases r8 r with h' | rfl | rfl | rfl | rfl | rfl | rfl | rfl | rfl
  · unfold withV V8.put
    rw [if_neg (by omega), if_neg (by omega), if_neg (by omega), if_neg (by omega), if_neg (by omega), if_neg (by omega), if_neg (by omega), if_neg (by omega)]
    simp
  all_goals simp [withV, V8.put, V8.at]; unfold maxI; repeat' split <;> omega
section
variable {X : Task → Prop} (hX : Closed X) {Q : A → List Blk → Prop}
include hX
theorem has_known {v : V8} {r c : Int} {b : Bool} (h : hasV v r c = b) (hQ : Q (bv b) []) : X (.call 120 [v.a, ver r c] [] Q) := vhas_ok hX (h ▸ hQ)
theorem max_known {u v m : V8} (h : maxV u v = m) (hQ : Q m.a []) : X (.call 108 [u.a, v.a] [] Q) := vmax_ok hX (h ▸ hQ)
theorem with_known {u m : V8} {r c : Int} (h : withV u r c = m) (hQ : Q m.a []) : X (.call 117 [u.a, ver r c] [] Q) := vwith_ok hX (h ▸ hQ)
theorem has_split {v : V8} {r c : Int} (h1 : hasV v r c = true → Q (bv true) []) (h2 : hasV v r c = false → Q (bv false) []) : X (.call 120 [v.a, ver r c] [] Q) :=
  vhas_ok hX (by cases h : hasV v r c with | true => exact h1 h | false => exact h2 h)
theorem has_max_split {a b m : V8} {r c : Int} (hm : maxV a b = m) (h1 : hasV a r c = true → Q (bv true) []) (h2 : hasV a r c = false → hasV b r c = true → Q (bv true) []) (h3 : hasV a r c = false → hasV b r c = false → Q (bv false) []) : X (.call 120 [m.a, ver r c] [] Q) :=
  vhas_ok hX (by
    rw [← hm, has_max]
    cases ha : hasV a r c with
    | true => exact h1 ha
    | false => cases hb : hasV b r c with
      | true => exact h2 ha hb
      | false => exact h3 ha hb)
end
section
variable {a b w c m : V8} {r n : Int}
theorem has_with_t (hw : withV a r n = w) (h1 : leI 1 r = true) (h2 : leI r 8 = true) (h3 : leI 1 n = true) : hasV w r n = true := by
  rw [← hw, has_with]; exact decide_eq_true ⟨leI_t.1 h1, leI_t.1 h2, leI_t.1 h3⟩
theorem has_with_f1 (hw : withV a r n = w) (h1 : leI 1 r = false) : hasV w r n = false := by
  rw [← hw, has_with]; exact decide_eq_false (by rw [leI_f] at h1; omega)
theorem has_with_f2 (hw : withV a r n = w) (h1 : leI r 8 = false) : hasV w r n = false := by
  rw [← hw, has_with]; exact decide_eq_false (by rw [leI_f] at h1; omega)
theorem has_with_f3 (hw : withV a r n = w) (h1 : leI 1 n = false) : hasV w r n = false := by
  rw [← hw, has_with]; exact decide_eq_false (by rw [leI_f] at h1; omega)
theorem has_with_n (hw : withV a r n = w) (h1 : leI 1 r = true) (h2 : leI r 8 = true) : hasV w r n = leI 1 n := by
  rw [← hw, has_with]; rw [leI_t] at *; simp [leI, h1, h2]
theorem in_max3' (hm : maxV a b = m) (h1 : inV a c = true) (h2 : inV b c = true) : inV m c = true := hm ▸ in_max3 h1 h2
end
set_option maxHeartbeats 1000000 in
theorem count_ok {X : Task → Prop} (hX : Closed X) {v : V8} {r : Int} {Q : A → List Blk → Prop} (hQ : Q (iv (v.at r)) []) : X (.call 129 [v.a, iv r] [] Q) := by
  refine call_intro hX Try.func129 rfl rfl ?_
  rcases r8 r with h | rfl | rfl | rfl | rfl | rfl | rfl | rfl | rfl
  · have e : v.at r = 0 := by
      unfold V8.at
      rw [if_neg (by omega), if_neg (by omega), if_neg (by omega), if_neg (by omega), if_neg (by omega), if_neg (by omega), if_neg (by omega), if_neg (by omega)]
    rw [e] at hQ
    repeat' ((conv => whnf); first | exact hQ | refine eqv_id ?_ | refine Two.l ?_ | refine ⟨by kernel_rfl, ?_⟩ | refine bct (by assumption) ?_ | refine bcf (by assumption) ?_ | refine bc (fun _ => ?_) (fun _ => ?_))
    all_goals (simp only [ltI_t, ltI_f] at *; omega)
  all_goals exact hQ
theorem hasVec_ok {X : Task → Prop} (hX : Closed X) {v : V8} {r c : Int} {Q : A → List Blk → Prop} (hQ : Q (bv (hasV v r c)) []) : X (.call 122 [v.a, ver r c] [] Q) := by
  refine call_intro hX Try.func122 rfl rfl ?_
  repeat' ((conv => whnf); first | refine ⟨by kernel_rfl, ?_⟩ | refine eqv_id ?_ | refine Two.l ?_ | refine bct (by assumption) ?_ | refine bcf (by assumption) ?_ | refine bc (fun _ => ?_) (fun _ => ?_) | refine count_ok hX ?_)
  all_goals (conv => whnf)
  all_goals refine Qb hQ ?_
  all_goals (simp only [leI_t, leI_f] at *; unfold hasV)
  · by_cases h : 1 ≤ r ∧ r ≤ 8
    · unfold leI; rw [Bool.eq_iff_iff]; simp; omega
    · have e : v.at r = 0 := by
        unfold V8.at
        rw [if_neg (by omega), if_neg (by omega), if_neg (by omega), if_neg (by omega), if_neg (by omega), if_neg (by omega), if_neg (by omega), if_neg (by omega)]
      rw [e, leI_f.2 (by omega)]; exact decide_eq_false (by omega)
  · exact decide_eq_false (by omega)
theorem withVec_ok {X : Task → Prop} (hX : Closed X) {v : V8} {r c : Int} {Q : A → List Blk → Prop} (hQ : Q (withV v r c).a []) : X (.call 119 [v.a, ver r c] [] Q) := by
  refine call_intro hX Try.func119 rfl rfl ?_
  rcases r8 r with h | rfl | rfl | rfl | rfl | rfl | rfl | rfl | rfl
  · repeat' ((conv => whnf); first | refine ⟨by kernel_rfl, ?_⟩ | refine eqv_id ?_ | refine Two.l ?_ | refine bct (by assumption) ?_ | refine bcf (by assumption) ?_ | refine bc (fun _ => ?_) (fun _ => ?_) | (simp only [ltI_t, ltI_f] at *; omega))
    all_goals (conv => whnf)
    all_goals (refine Qa hQ ?_; unfold withV V8.put; rw [if_neg (by omega), if_neg (by omega), if_neg (by omega), if_neg (by omega), if_neg (by omega), if_neg (by omega), if_neg (by omega), if_neg (by omega)])
  all_goals
    repeat' ((conv => whnf); first | refine ⟨by kernel_rfl, ?_⟩ | refine eqv_id ?_ | refine Two.l ?_ | refine bct (by assumption) ?_ | refine bcf (by assumption) ?_ | refine bc (fun _ => ?_) (fun _ => ?_))
  all_goals (conv => whnf)
  all_goals (refine Qa hQ ?_; simp only [leI_t, leI_f] at *; simp [withV, V8.put, V8.at, maxI]; omega)
theorem mayVec_ok {X : Task → Prop} (hX : Closed X) {v : V8} {Q : A → List Blk → Prop} (hQ : Q (bv (mayV v)) []) : X (.call 128 [v.a] [] Q) := by
  refine call_intro hX Try.func128 rfl rfl ?_
  repeat' ((conv => whnf); first | refine ⟨by kernel_rfl, ?_⟩ | refine eqv_id ?_ | refine Two.l ?_ | refine bct (by assumption) ?_ | refine bcf (by assumption) ?_ | refine bc (fun _ => ?_) (fun _ => ?_) | refine loop_intro hX ?_)
  all_goals (conv => whnf)
  all_goals refine Qb hQ ?_
  all_goals (simp only [ltI_t, ltI_f] at *; unfold mayV; first | exact decide_eq_true (by omega) | exact decide_eq_false (by omega))
section
variable {X : Task → Prop} (hX : Closed X) {a b : V8} {K : Ex → List A → List Blk → Prop}
include hX
abbrev refMaxAt (X : Task → Prop) (a b o : V8) (i : Int) (K : Ex → List A → List Blk → Prop) : Prop :=
  X (.loop 110 0 (loopN Try.f110 0) (pad [(2, .one (.ptr 0 0)), (0, .one (.ptr 1 0)), (0, .one (.ptr 2 0)), (0, .one (.ptr 3 0)), (0, iv i)] 22) [.box a.cells, .box b.cells, .box [ic 0, ic 0, ic 0, ic 0, ic 0, ic 0, ic 0, ic 0], .box o.cells] K)
abbrev refMaxEnd (a b o : V8) (K : Ex → List A → List Blk → Prop) : Prop :=
  K (.exit 0) (pad [(2, .one (.ptr 0 0)), (0, .one (.ptr 1 0)), (0, .one (.ptr 2 0)), (0, .one (.ptr 3 0)), (0, iv 8), (0, iv 8), (0, bv false)] 20) [.box a.cells, .box b.cells, .box [ic 0, ic 0, ic 0, ic 0, ic 0, ic 0, ic 0, ic 0], .box o.cells]
theorem refMax8 {o : V8} (h : refMaxEnd a b o K) : refMaxAt X a b o 8 K := by
  refine loop_intro hX ?_
  exact h
theorem refMax7 {o : V8} (h : refMaxEnd a b { o with x7 := maxI a.x7 b.x7 } K) : refMaxAt X a b o 7 K := by
  refine loop_intro hX ?_
  repeat' ((conv => whnf); first | refine ⟨by kernel_rfl, ?_⟩ | refine eqv_id ?_ | refine Two.l ?_ | refine bc (fun _ => ?_) (fun _ => ?_) | refine refMax8 hX (o := { o with x7 := b.x7 }) ?_ | refine refMax8 hX (o := { o with x7 := a.x7 }) ?_)
  · have e : maxI a.x7 b.x7 = b.x7 := by rw [ltI_t] at *; unfold maxI; rw [if_pos (by omega)]
    rw [e] at h; exact h
  · have e : maxI a.x7 b.x7 = a.x7 := by rw [ltI_f] at *; unfold maxI; rw [if_neg (by omega)]
    rw [e] at h; exact h
theorem refMax6 {o : V8} (h : refMaxEnd a b { o with x6 := maxI a.x6 b.x6, x7 := maxI a.x7 b.x7 } K) : refMaxAt X a b o 6 K := by
  refine loop_intro hX ?_
  repeat' ((conv => whnf); first | refine ⟨by kernel_rfl, ?_⟩ | refine eqv_id ?_ | refine Two.l ?_ | refine bc (fun _ => ?_) (fun _ => ?_) | refine refMax7 hX (o := { o with x6 := b.x6 }) ?_ | refine refMax7 hX (o := { o with x6 := a.x6 }) ?_)
  · have e : maxI a.x6 b.x6 = b.x6 := by rw [ltI_t] at *; unfold maxI; rw [if_pos (by omega)]
    rw [e] at h; exact h
  · have e : maxI a.x6 b.x6 = a.x6 := by rw [ltI_f] at *; unfold maxI; rw [if_neg (by omega)]
    rw [e] at h; exact h
theorem refMax5 {o : V8} (h : refMaxEnd a b { o with x5 := maxI a.x5 b.x5, x6 := maxI a.x6 b.x6, x7 := maxI a.x7 b.x7 } K) : refMaxAt X a b o 5 K := by
  refine loop_intro hX ?_
  repeat' ((conv => whnf); first | refine ⟨by kernel_rfl, ?_⟩ | refine eqv_id ?_ | refine Two.l ?_ | refine bc (fun _ => ?_) (fun _ => ?_) | refine refMax6 hX (o := { o with x5 := b.x5 }) ?_ | refine refMax6 hX (o := { o with x5 := a.x5 }) ?_)
  · have e : maxI a.x5 b.x5 = b.x5 := by rw [ltI_t] at *; unfold maxI; rw [if_pos (by omega)]
    rw [e] at h; exact h
  · have e : maxI a.x5 b.x5 = a.x5 := by rw [ltI_f] at *; unfold maxI; rw [if_neg (by omega)]
    rw [e] at h; exact h
theorem refMax4 {o : V8} (h : refMaxEnd a b { o with x4 := maxI a.x4 b.x4, x5 := maxI a.x5 b.x5, x6 := maxI a.x6 b.x6, x7 := maxI a.x7 b.x7 } K) : refMaxAt X a b o 4 K := by
  refine loop_intro hX ?_
  repeat' ((conv => whnf); first | refine ⟨by kernel_rfl, ?_⟩ | refine eqv_id ?_ | refine Two.l ?_ | refine bc (fun _ => ?_) (fun _ => ?_) | refine refMax5 hX (o := { o with x4 := b.x4 }) ?_ | refine refMax5 hX (o := { o with x4 := a.x4 }) ?_)
  · have e : maxI a.x4 b.x4 = b.x4 := by rw [ltI_t] at *; unfold maxI; rw [if_pos (by omega)]
    rw [e] at h; exact h
  · have e : maxI a.x4 b.x4 = a.x4 := by rw [ltI_f] at *; unfold maxI; rw [if_neg (by omega)]
    rw [e] at h; exact h
theorem refMax3 {o : V8} (h : refMaxEnd a b { o with x3 := maxI a.x3 b.x3, x4 := maxI a.x4 b.x4, x5 := maxI a.x5 b.x5, x6 := maxI a.x6 b.x6, x7 := maxI a.x7 b.x7 } K) : refMaxAt X a b o 3 K := by
  refine loop_intro hX ?_
  repeat' ((conv => whnf); first | refine ⟨by kernel_rfl, ?_⟩ | refine eqv_id ?_ | refine Two.l ?_ | refine bc (fun _ => ?_) (fun _ => ?_) | refine refMax4 hX (o := { o with x3 := b.x3 }) ?_ | refine refMax4 hX (o := { o with x3 := a.x3 }) ?_)
  · have e : maxI a.x3 b.x3 = b.x3 := by rw [ltI_t] at *; unfold maxI; rw [if_pos (by omega)]
    rw [e] at h; exact h
  · have e : maxI a.x3 b.x3 = a.x3 := by rw [ltI_f] at *; unfold maxI; rw [if_neg (by omega)]
    rw [e] at h; exact h
theorem refMax2 {o : V8} (h : refMaxEnd a b { o with x2 := maxI a.x2 b.x2, x3 := maxI a.x3 b.x3, x4 := maxI a.x4 b.x4, x5 := maxI a.x5 b.x5, x6 := maxI a.x6 b.x6, x7 := maxI a.x7 b.x7 } K) : refMaxAt X a b o 2 K := by
  refine loop_intro hX ?_
  repeat' ((conv => whnf); first | refine ⟨by kernel_rfl, ?_⟩ | refine eqv_id ?_ | refine Two.l ?_ | refine bc (fun _ => ?_) (fun _ => ?_) | refine refMax3 hX (o := { o with x2 := b.x2 }) ?_ | refine refMax3 hX (o := { o with x2 := a.x2 }) ?_)
  · have e : maxI a.x2 b.x2 = b.x2 := by rw [ltI_t] at *; unfold maxI; rw [if_pos (by omega)]
    rw [e] at h; exact h
  · have e : maxI a.x2 b.x2 = a.x2 := by rw [ltI_f] at *; unfold maxI; rw [if_neg (by omega)]
    rw [e] at h; exact h
theorem refMax1 {o : V8} (h : refMaxEnd a b { o with x1 := maxI a.x1 b.x1, x2 := maxI a.x2 b.x2, x3 := maxI a.x3 b.x3, x4 := maxI a.x4 b.x4, x5 := maxI a.x5 b.x5, x6 := maxI a.x6 b.x6, x7 := maxI a.x7 b.x7 } K) : refMaxAt X a b o 1 K := by
  refine loop_intro hX ?_
  repeat' ((conv => whnf); first | refine ⟨by kernel_rfl, ?_⟩ | refine eqv_id ?_ | refine Two.l ?_ | refine bc (fun _ => ?_) (fun _ => ?_) | refine refMax2 hX (o := { o with x1 := b.x1 }) ?_ | refine refMax2 hX (o := { o with x1 := a.x1 }) ?_)
  · have e : maxI a.x1 b.x1 = b.x1 := by rw [ltI_t] at *; unfold maxI; rw [if_pos (by omega)]
    rw [e] at h; exact h
  · have e : maxI a.x1 b.x1 = a.x1 := by rw [ltI_f] at *; unfold maxI; rw [if_neg (by omega)]
    rw [e] at h; exact h
theorem refMax0 {o : V8} (h : refMaxEnd a b { o with x0 := maxI a.x0 b.x0, x1 := maxI a.x1 b.x1, x2 := maxI a.x2 b.x2, x3 := maxI a.x3 b.x3, x4 := maxI a.x4 b.x4, x5 := maxI a.x5 b.x5, x6 := maxI a.x6 b.x6, x7 := maxI a.x7 b.x7 } K) : refMaxAt X a b o 0 K := by
  refine loop_intro hX ?_
  repeat' ((conv => whnf); first | refine ⟨by kernel_rfl, ?_⟩ | refine eqv_id ?_ | refine Two.l ?_ | refine bc (fun _ => ?_) (fun _ => ?_) | refine refMax1 hX (o := { o with x0 := b.x0 }) ?_ | refine refMax1 hX (o := { o with x0 := a.x0 }) ?_)
  · have e : maxI a.x0 b.x0 = b.x0 := by rw [ltI_t] at *; unfold maxI; rw [if_pos (by omega)]
    rw [e] at h; exact h
  · have e : maxI a.x0 b.x0 = a.x0 := by rw [ltI_f] at *; unfold maxI; rw [if_neg (by omega)]
    rw [e] at h; exact h
theorem refMax_ok {Q : A → List Blk → Prop} (hQ : Q (maxV a b).a []) : X (.call 110 [a.a, b.a] [] Q) := by
  refine call_intro hX Try.func110 rfl rfl ?_
  (conv => whnf)
  refine refMax0 hX (o := ⟨0, 0, 0, 0, 0, 0, 0, 0⟩) ?_
  exact hQ
end
end Go.Proofs.Ytijkfjahgijphaa
