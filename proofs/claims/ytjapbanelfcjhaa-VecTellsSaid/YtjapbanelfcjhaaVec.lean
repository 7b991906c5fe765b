/- Counts of replicas (vec): what each of its functions computes. -/
import Derived.Test.YtjapbanelfcjhaaTab
import Derived.Test.YtjapbanelfcjhaaEvTac
set_option linter.unusedVariables false
set_option linter.unusedSimpArgs false
set_option maxRecDepth 100000
namespace Go.Proofs.Ytjapbanelfcjhaa
open Go E
def Hh : List (Nat × Nat × List Nat) := [(7, 1006, [4, 0, 0, 0, 1, 0]), (7, 1008, [4, 2, 1]), (36, 3, [2, 1, 2, 0]), (37, 4, [2, 0, 0, 0, 0]), (39, 3, [2, 0, 1]), (40, 3, [5, 0]), (41, 3, [1, 1])]
def KO : List Nat := []
def noPrim : Nat → List A → A → Prop := fun _ _ _ => False
abbrev Closed (X : Task → Prop) : Prop := ∀ t, Step T Hh KO X Try.prog noPrim t → X t
abbrev iv (n : Int) : A := .one (.p (.v (.int .i64 n)))
abbrev ic (n : Int) : C := .p (.v (.int .i64 n))
abbrev bv (b : Bool) : A := .one (.p (.v (.bool b)))
theorem Qb {Q : A → List Blk → Prop} {b b' : Bool} (h : Q (bv b) []) (e : b = b') : Q (bv b') [] := e ▸ h
theorem Qa {Q : A → List Blk → Prop} {b b' : A} (h : Q b []) (e : b = b') : Q b' [] := e ▸ h
structure V8 where
  x0 : Int
  x1 : Int
  x2 : Int
  x3 : Int
  x4 : Int
  x5 : Int
  x6 : Int
  x7 : Int
abbrev V8.cells (v : V8) : List C := [ic v.x0, ic v.x1, ic v.x2, ic v.x3, ic v.x4, ic v.x5, ic v.x6, ic v.x7]
abbrev V8.a (v : V8) : A := .agg v.cells
abbrev ver (r c : Int) : A := .agg [ic r, ic c]
def placeV (n : Int) : Int := if n < 1 ∨ 8 < n then -1 else n - 1
def V8.at (v : V8) (r : Int) : Int := if r = 1 then v.x0 else if r = 2 then v.x1 else if r = 3 then v.x2 else if r = 4 then v.x3 else if r = 5 then v.x4 else if r = 6 then v.x5 else if r = 7 then v.x6 else if r = 8 then v.x7 else 0
def V8.put (v : V8) (r c : Int) : V8 :=
  if r = 1 then { v with x0 := c } else if r = 2 then { v with x1 := c } else if r = 3 then { v with x2 := c } else if r = 4 then { v with x3 := c }
  else if r = 5 then { v with x4 := c } else if r = 6 then { v with x5 := c } else if r = 7 then { v with x6 := c } else if r = 8 then { v with x7 := c } else v
def hasV (v : V8) (r c : Int) : Bool := decide (1 ≤ r ∧ r ≤ 8 ∧ 1 ≤ c ∧ c ≤ v.at r)
def maxV (a b : V8) : V8 := ⟨maxI a.x0 b.x0, maxI a.x1 b.x1, maxI a.x2 b.x2, maxI a.x3 b.x3, maxI a.x4 b.x4, maxI a.x5 b.x5, maxI a.x6 b.x6, maxI a.x7 b.x7⟩
def withV (v : V8) (r c : Int) : V8 := v.put r (maxI (v.at r) c)
def eq8 (a b : V8) : Bool := andB (eqI a.x0 b.x0) (andB (eqI a.x1 b.x1) (andB (eqI a.x2 b.x2) (andB (eqI a.x3 b.x3) (andB (eqI a.x4 b.x4) (andB (eqI a.x5 b.x5) (andB (eqI a.x6 b.x6) (andB (eqI a.x7 b.x7) true)))))))
def inV (a b : V8) : Bool := eq8 (maxV a b) b
theorem r8 (r : Int) : (r < 1 ∨ 8 < r) ∨ r = 1 ∨ r = 2 ∨ r = 3 ∨ r = 4 ∨ r = 5 ∨ r = 6 ∨ r = 7 ∨ r = 8 := by omega

theorem place_ok {X : Task → Prop} (hX : Closed X) {n : Int} {Q : A → List Blk → Prop} (hQ : Q (iv (placeV n)) []) : X (.call 87 [iv n] [] Q) := by
  refine call_intro hX Try.func87 rfl rfl ?_
  repeat' ((conv => whnf); first | refine ⟨by kernel_rfl, ?_⟩ | refine bct (by assumption) ?_ | refine bcf (by assumption) ?_ | refine bc (fun _ => ?_) (fun _ => ?_))
  all_goals (conv => whnf)
  all_goals (refine Qa hQ ?_; simp only [ltI_t, ltI_f] at *; unfold placeV)
  · rw [if_pos (by omega)]
  · rw [if_pos (by omega)]
  · rw [if_neg (by omega), wr64 (by omega) (by omega)]
theorem max_ok {X : Task → Prop} (hX : Closed X) {a b : V8} {Q : A → List Blk → Prop} (hQ : Q (maxV a b).a []) : X (.call 36 [a.a, b.a] [] Q) := by
  refine call_intro hX Try.func36 rfl rfl ?_
  repeat' ((conv => whnf); first | refine ⟨by kernel_rfl, ?_⟩ | refine bct (by assumption) ?_ | refine bcf (by assumption) ?_ | refine bc (fun _ => ?_) (fun _ => ?_) | refine loop_intro hX ?_)
  exact hQ
theorem placeV_out {n : Int} (h : n < 1 ∨ 8 < n) : placeV n = -1 := if_pos h
theorem has_ok {X : Task → Prop} (hX : Closed X) {v : V8} {r c : Int} {Q : A → List Blk → Prop} (hQ : Q (bv (hasV v r c)) []) : X (.call 32 [v.a, ver r c] [] Q) := by
  refine call_intro hX Try.func32 rfl rfl ?_
  rcases r8 r with h | rfl | rfl | rfl | rfl | rfl | rfl | rfl | rfl
  · (conv => whnf)
    refine place_ok hX ?_
    rw [placeV_out h]
    repeat' ((conv => whnf); first | refine ⟨by kernel_rfl, ?_⟩ | refine bct (by assumption) ?_ | refine bcf (by assumption) ?_ | refine bc (fun _ => ?_) (fun _ => ?_))
    (conv => whnf)
    refine Qb hQ ?_
    unfold hasV
    exact decide_eq_false (by omega)
  all_goals
    (conv => whnf)
    refine place_ok hX ?_
    repeat' ((conv => whnf); first | refine ⟨by kernel_rfl, ?_⟩ | refine bct (by assumption) ?_ | refine bcf (by assumption) ?_ | refine bc (fun _ => ?_) (fun _ => ?_))
  all_goals (conv => whnf)
  all_goals refine Qb hQ ?_
  all_goals (simp only [leI_t, leI_f] at *; simp [hasV, V8.at, leI]; try omega)
theorem in_ok {X : Task → Prop} (hX : Closed X) {a b : V8} {Q : A → List Blk → Prop} (hQ : Q (bv (inV a b)) []) : X (.call 38 [a.a, b.a] [] Q) := by
  refine call_intro hX Try.func38 rfl rfl ?_
  repeat' ((conv => whnf); first | refine ⟨by kernel_rfl, ?_⟩ | refine bct (by assumption) ?_ | refine bcf (by assumption) ?_ | refine bc (fun _ => ?_) (fun _ => ?_) | refine max_ok hX ?_)
  exact hQ
theorem with_ok {X : Task → Prop} (hX : Closed X) {v : V8} {r c : Int} {Q : A → List Blk → Prop} (hQ : Q (withV v r c).a []) : X (.call 34 [v.a, ver r c] [] Q) := by
  refine call_intro hX Try.func34 rfl rfl ?_
  rcases r8 r with h | rfl | rfl | rfl | rfl | rfl | rfl | rfl | rfl
  · (conv => whnf)
    refine place_ok hX ?_
    rw [placeV_out h]
    repeat' ((conv => whnf); first | refine ⟨by kernel_rfl, ?_⟩ | refine bct (by assumption) ?_ | refine bcf (by assumption) ?_ | refine bc (fun _ => ?_) (fun _ => ?_))
    (conv => whnf)
    refine Qa hQ ?_
    unfold withV V8.put
    rw [if_neg (by omega), if_neg (by omega), if_neg (by omega), if_neg (by omega), if_neg (by omega), if_neg (by omega), if_neg (by omega), if_neg (by omega)]
  all_goals
    (conv => whnf)
    refine place_ok hX ?_
    repeat' ((conv => whnf); first | refine ⟨by kernel_rfl, ?_⟩ | refine bct (by assumption) ?_ | refine bcf (by assumption) ?_ | refine bc (fun _ => ?_) (fun _ => ?_))
  all_goals exact hQ
def mayV (v : V8) : Bool := decide ((0 ≤ v.x0 ∧ v.x0 ≤ 1000) ∧ (0 ≤ v.x1 ∧ v.x1 ≤ 1000) ∧ (0 ≤ v.x2 ∧ v.x2 ≤ 1000) ∧ (0 ≤ v.x3 ∧ v.x3 ≤ 1000) ∧ (0 ≤ v.x4 ∧ v.x4 ≤ 1000) ∧ (0 ≤ v.x5 ∧ v.x5 ≤ 1000) ∧ (0 ≤ v.x6 ∧ v.x6 ≤ 1000) ∧ (0 ≤ v.x7 ∧ v.x7 ≤ 1000))
theorem may_ok {X : Task → Prop} (hX : Closed X) {v : V8} {Q : A → List Blk → Prop} (hQ : Q (bv (mayV v)) []) : X (.call 40 [v.a] [] Q) := by
  refine call_intro hX Try.func40 rfl rfl ?_
  repeat' ((conv => whnf); first | refine ⟨by kernel_rfl, ?_⟩ | refine bct (by assumption) ?_ | refine bcf (by assumption) ?_ | refine bc (fun _ => ?_) (fun _ => ?_) | refine loop_intro hX ?_)
  all_goals (conv => whnf)
  all_goals refine Qb hQ ?_
  all_goals (simp only [ltI_t, ltI_f] at *; unfold mayV; first | exact decide_eq_true (by omega) | exact decide_eq_false (by omega))
theorem up_ok {X : Task → Prop} (hX : Closed X) {Q : A → List Blk → Prop} (hQ : Q (bv true) []) : X (.call 31 [] [] Q) := by
  refine call_intro hX Try.func31 rfl rfl ?_
  repeat' ((conv => whnf); first | refine ⟨by kernel_rfl, ?_⟩ | refine bct (by assumption) ?_ | refine bcf (by assumption) ?_ | refine loop_intro hX ?_ | refine with_ok (v := ⟨0, 0, 0, 0, 0, 0, 0, 0⟩) hX ?_ | refine may_ok (v := ⟨0, 0, 0, 0, 0, 0, 0, 0⟩) hX ?_ | refine in_ok (a := ⟨1, 0, 0, 0, 0, 0, 0, 0⟩) (b := ⟨2, 0, 0, 0, 0, 0, 0, 0⟩) hX ?_)
  exact hQ
end Go.Proofs.Ytjapbanelfcjhaa
