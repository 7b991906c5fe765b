/- Rounds: over a list, with fuel; ways that meet. (Only those that are used.) -/
import Derived.Test.YtijkfjahgijphaaKSpec
set_option linter.unusedVariables false
namespace Go.Proofs.Ytijkfjahgijphaa
open Go E
theorem loop_lisx0 {R α : Type} {X : Task → Prop} {f m : Nat} {c : Code} {K : Ex → List A → List Blk → Prop} {r : R} (T' : Int → List A) (S' : Int → List Blk) (L : List α → Option R) (l : List α)
    (hstep : ∀ (pre : List α) (x : α) (xs : List α) (i : Int), l = pre ++ x :: xs → i = (pre.length : Int) → L (x :: xs) = some r → (∀ (i' : Int), i' = i + 1 → L xs = some r → X (.loop f m c (T' i') (S' i') K)) → X (.loop f m c (T' i) (S' i) K))
    (hend : ∀ (i : Int), i = (l.length : Int) → L [] = some r → X (.loop f m c (T' i) (S' i) K)) (h : L l = some r) : X (.loop f m c (T' 0) (S' 0) K) := by
  have key : ∀ (xs pre : List α) (i : Int), l = pre ++ xs → i = (pre.length : Int) → L xs = some r → X (.loop f m c (T' i) (S' i) K) := by
    intro xs
    induction xs with
    | nil => intro pre i hl hi h; exact hend i (by rw [hl, hi]; simp) h
    | cons x xs ih => intro pre i hl hi h; exact hstep pre x xs i hl hi h fun i' hi' h' => by subst hi'; exact ih (pre ++ [x]) (i + 1) (by rw [hl]; simp) (by rw [hi]; simp) h'
  exact key l [] 0 rfl rfl h
theorem loop_list0 {R α : Type} {X : Task → Prop} {f m : Nat} {c : Code} {K : Ex → List A → List Blk → Prop} {r : R} (T' : Int → List A) (S' : Int → List Blk) (L : List α → Int → Option R) (l : List α)
    (hstep : ∀ (pre : List α) (x : α) (xs : List α) (i : Int), l = pre ++ x :: xs → i = (pre.length : Int) → L (x :: xs) i = some r → (∀ (i' : Int), i' = i + 1 → L xs (i + 1) = some r → X (.loop f m c (T' i') (S' i') K)) → X (.loop f m c (T' i) (S' i) K))
    (hend : ∀ (i : Int), i = (l.length : Int) → L [] i = some r → X (.loop f m c (T' i) (S' i) K)) (h : L l 0 = some r) : X (.loop f m c (T' 0) (S' 0) K) := by
  have key : ∀ (xs pre : List α) (i : Int), l = pre ++ xs → i = (pre.length : Int) → L xs i = some r → X (.loop f m c (T' i) (S' i) K) := by
    intro xs
    induction xs with
    | nil => intro pre i hl hi h; exact hend i (by rw [hl, hi]; simp) h
    | cons x xs ih => intro pre i hl hi h; exact hstep pre x xs i hl hi h fun i' hi' h' => by subst hi'; exact ih (pre ++ [x]) (i + 1) (by rw [hl]; simp) (by rw [hi]; simp) h'
  exact key l [] 0 rfl rfl h
theorem join0 {R : Type} {X : Task → Prop} {f m : Nat} {c : Code} {K : Ex → List A → List Blk → Prop} {r : R} {G : Prop} {j : Option R} (T' : List A) (S' : List Blk)
    (main : Hold (j = some r → X (.rest f m c T' S' K)) → G) (tail : j = some r → X (.rest f m c T' S' K)) : G := main ⟨tail⟩
theorem loop_lisz1 {R α : Type} {S0 : Type} {X : Task → Prop} {f m : Nat} {c : Code} {K : Ex → List A → List Blk → Prop} {r : R} (T' : Int → S0 → List A) (S' : Int → S0 → List Blk) (L : List α → S0 → Option R) (l pre0 l0 : List α) (i0 : Int) (hl0 : l = pre0 ++ l0) (hi0 : i0 = (pre0.length : Int))
    (hstep : ∀ (pre : List α) (x : α) (xs : List α) (i : Int) (a0 : S0), l = pre ++ x :: xs → i = (pre.length : Int) → L (x :: xs) a0 = some r → (∀ (i' : Int) (b0 : S0), i' = i + 1 → L xs b0 = some r → X (.loop f m c (T' i' b0) (S' i' b0) K)) → X (.loop f m c (T' i a0) (S' i a0) K))
    (hend : ∀ (i : Int) (a0 : S0), i = (l.length : Int) → L [] a0 = some r → X (.loop f m c (T' i a0) (S' i a0) K)) (a0 : S0) (h : L l0 a0 = some r) : X (.loop f m c (T' i0 a0) (S' i0 a0) K) := by
  have key : ∀ (xs pre : List α) (i : Int) (a0 : S0), l = pre ++ xs → i = (pre.length : Int) → L xs a0 = some r → X (.loop f m c (T' i a0) (S' i a0) K) := by
    intro xs
    induction xs with
    | nil => intro pre i a0 hl hi h; exact hend i a0 (by rw [hl, hi]; simp) h
    | cons x xs ih => intro pre i a0 hl hi h; exact hstep pre x xs i a0 hl hi h fun i' b0 hi' h' => by subst hi'; exact ih (pre ++ [x]) (i + 1) b0 (by rw [hl]; simp) (by rw [hi]; simp) h'
  exact key l0 pre0 i0 a0 hl0 hi0 h
theorem loop_lisx1 {R α : Type} {S0 : Type} {X : Task → Prop} {f m : Nat} {c : Code} {K : Ex → List A → List Blk → Prop} {r : R} (T' : Int → S0 → List A) (S' : Int → S0 → List Blk) (L : List α → S0 → Option R) (l : List α)
    (hstep : ∀ (pre : List α) (x : α) (xs : List α) (i : Int) (a0 : S0), l = pre ++ x :: xs → i = (pre.length : Int) → L (x :: xs) a0 = some r → (∀ (i' : Int) (b0 : S0), i' = i + 1 → L xs b0 = some r → X (.loop f m c (T' i' b0) (S' i' b0) K)) → X (.loop f m c (T' i a0) (S' i a0) K))
    (hend : ∀ (i : Int) (a0 : S0), i = (l.length : Int) → L [] a0 = some r → X (.loop f m c (T' i a0) (S' i a0) K)) (a0 : S0) (h : L l a0 = some r) : X (.loop f m c (T' 0 a0) (S' 0 a0) K) := by
  have key : ∀ (xs pre : List α) (i : Int) (a0 : S0), l = pre ++ xs → i = (pre.length : Int) → L xs a0 = some r → X (.loop f m c (T' i a0) (S' i a0) K) := by
    intro xs
    induction xs with
    | nil => intro pre i a0 hl hi h; exact hend i a0 (by rw [hl, hi]; simp) h
    | cons x xs ih => intro pre i a0 hl hi h; exact hstep pre x xs i a0 hl hi h fun i' b0 hi' h' => by subst hi'; exact ih (pre ++ [x]) (i + 1) b0 (by rw [hl]; simp) (by rw [hi]; simp) h'
  exact key l [] 0 a0 rfl rfl h
theorem join1 {R : Type} {S0 : Type} {X : Task → Prop} {f m : Nat} {c : Code} {K : Ex → List A → List Blk → Prop} {r : R} {G : Prop} {j : S0 → Option R} (T' : S0 → List A) (S' : S0 → List Blk)
    (main : Hold (∀ (a0 : S0), j a0 = some r → X (.rest f m c (T' a0) (S' a0) K)) → G) (tail : ∀ (a0 : S0), j a0 = some r → X (.rest f m c (T' a0) (S' a0) K)) : G := main ⟨tail⟩
theorem loop_lisz2 {R α : Type} {S0 S1 : Type} {X : Task → Prop} {f m : Nat} {c : Code} {K : Ex → List A → List Blk → Prop} {r : R} (T' : Int → S0 → S1 → List A) (S' : Int → S0 → S1 → List Blk) (L : List α → S0 → S1 → Option R) (l pre0 l0 : List α) (i0 : Int) (hl0 : l = pre0 ++ l0) (hi0 : i0 = (pre0.length : Int))
    (hstep : ∀ (pre : List α) (x : α) (xs : List α) (i : Int) (a0 : S0) (a1 : S1), l = pre ++ x :: xs → i = (pre.length : Int) → L (x :: xs) a0 a1 = some r → (∀ (i' : Int) (b0 : S0) (b1 : S1), i' = i + 1 → L xs b0 b1 = some r → X (.loop f m c (T' i' b0 b1) (S' i' b0 b1) K)) → X (.loop f m c (T' i a0 a1) (S' i a0 a1) K))
    (hend : ∀ (i : Int) (a0 : S0) (a1 : S1), i = (l.length : Int) → L [] a0 a1 = some r → X (.loop f m c (T' i a0 a1) (S' i a0 a1) K)) (a0 : S0) (a1 : S1) (h : L l0 a0 a1 = some r) : X (.loop f m c (T' i0 a0 a1) (S' i0 a0 a1) K) := by
  have key : ∀ (xs pre : List α) (i : Int) (a0 : S0) (a1 : S1), l = pre ++ xs → i = (pre.length : Int) → L xs a0 a1 = some r → X (.loop f m c (T' i a0 a1) (S' i a0 a1) K) := by
    intro xs
    induction xs with
    | nil => intro pre i a0 a1 hl hi h; exact hend i a0 a1 (by rw [hl, hi]; simp) h
    | cons x xs ih => intro pre i a0 a1 hl hi h; exact hstep pre x xs i a0 a1 hl hi h fun i' b0 b1 hi' h' => by subst hi'; exact ih (pre ++ [x]) (i + 1) b0 b1 (by rw [hl]; simp) (by rw [hi]; simp) h'
  exact key l0 pre0 i0 a0 a1 hl0 hi0 h
theorem loop_lisx2 {R α : Type} {S0 S1 : Type} {X : Task → Prop} {f m : Nat} {c : Code} {K : Ex → List A → List Blk → Prop} {r : R} (T' : Int → S0 → S1 → List A) (S' : Int → S0 → S1 → List Blk) (L : List α → S0 → S1 → Option R) (l : List α)
    (hstep : ∀ (pre : List α) (x : α) (xs : List α) (i : Int) (a0 : S0) (a1 : S1), l = pre ++ x :: xs → i = (pre.length : Int) → L (x :: xs) a0 a1 = some r → (∀ (i' : Int) (b0 : S0) (b1 : S1), i' = i + 1 → L xs b0 b1 = some r → X (.loop f m c (T' i' b0 b1) (S' i' b0 b1) K)) → X (.loop f m c (T' i a0 a1) (S' i a0 a1) K))
    (hend : ∀ (i : Int) (a0 : S0) (a1 : S1), i = (l.length : Int) → L [] a0 a1 = some r → X (.loop f m c (T' i a0 a1) (S' i a0 a1) K)) (a0 : S0) (a1 : S1) (h : L l a0 a1 = some r) : X (.loop f m c (T' 0 a0 a1) (S' 0 a0 a1) K) := by
  have key : ∀ (xs pre : List α) (i : Int) (a0 : S0) (a1 : S1), l = pre ++ xs → i = (pre.length : Int) → L xs a0 a1 = some r → X (.loop f m c (T' i a0 a1) (S' i a0 a1) K) := by
    intro xs
    induction xs with
    | nil => intro pre i a0 a1 hl hi h; exact hend i a0 a1 (by rw [hl, hi]; simp) h
    | cons x xs ih => intro pre i a0 a1 hl hi h; exact hstep pre x xs i a0 a1 hl hi h fun i' b0 b1 hi' h' => by subst hi'; exact ih (pre ++ [x]) (i + 1) b0 b1 (by rw [hl]; simp) (by rw [hi]; simp) h'
  exact key l [] 0 a0 a1 rfl rfl h
theorem join2 {R : Type} {S0 S1 : Type} {X : Task → Prop} {f m : Nat} {c : Code} {K : Ex → List A → List Blk → Prop} {r : R} {G : Prop} {j : S0 → S1 → Option R} (T' : S0 → S1 → List A) (S' : S0 → S1 → List Blk)
    (main : Hold (∀ (a0 : S0) (a1 : S1), j a0 a1 = some r → X (.rest f m c (T' a0 a1) (S' a0 a1) K)) → G) (tail : ∀ (a0 : S0) (a1 : S1), j a0 a1 = some r → X (.rest f m c (T' a0 a1) (S' a0 a1) K)) : G := main ⟨tail⟩
theorem loop_lisx8 {R α : Type} {S0 S1 S2 S3 S4 S5 S6 S7 : Type} {X : Task → Prop} {f m : Nat} {c : Code} {K : Ex → List A → List Blk → Prop} {r : R} (T' : Int → S0 → S1 → S2 → S3 → S4 → S5 → S6 → S7 → List A) (S' : Int → S0 → S1 → S2 → S3 → S4 → S5 → S6 → S7 → List Blk) (L : List α → S0 → S1 → S2 → S3 → S4 → S5 → S6 → S7 → Option R) (l : List α)
    (hstep : ∀ (pre : List α) (x : α) (xs : List α) (i : Int) (a0 : S0) (a1 : S1) (a2 : S2) (a3 : S3) (a4 : S4) (a5 : S5) (a6 : S6) (a7 : S7), l = pre ++ x :: xs → i = (pre.length : Int) → L (x :: xs) a0 a1 a2 a3 a4 a5 a6 a7 = some r → (∀ (i' : Int) (b0 : S0) (b1 : S1) (b2 : S2) (b3 : S3) (b4 : S4) (b5 : S5) (b6 : S6) (b7 : S7), i' = i + 1 → L xs b0 b1 b2 b3 b4 b5 b6 b7 = some r → X (.loop f m c (T' i' b0 b1 b2 b3 b4 b5 b6 b7) (S' i' b0 b1 b2 b3 b4 b5 b6 b7) K)) → X (.loop f m c (T' i a0 a1 a2 a3 a4 a5 a6 a7) (S' i a0 a1 a2 a3 a4 a5 a6 a7) K))
    (hend : ∀ (i : Int) (a0 : S0) (a1 : S1) (a2 : S2) (a3 : S3) (a4 : S4) (a5 : S5) (a6 : S6) (a7 : S7), i = (l.length : Int) → L [] a0 a1 a2 a3 a4 a5 a6 a7 = some r → X (.loop f m c (T' i a0 a1 a2 a3 a4 a5 a6 a7) (S' i a0 a1 a2 a3 a4 a5 a6 a7) K)) (a0 : S0) (a1 : S1) (a2 : S2) (a3 : S3) (a4 : S4) (a5 : S5) (a6 : S6) (a7 : S7) (h : L l a0 a1 a2 a3 a4 a5 a6 a7 = some r) : X (.loop f m c (T' 0 a0 a1 a2 a3 a4 a5 a6 a7) (S' 0 a0 a1 a2 a3 a4 a5 a6 a7) K) := by
  have key : ∀ (xs pre : List α) (i : Int) (a0 : S0) (a1 : S1) (a2 : S2) (a3 : S3) (a4 : S4) (a5 : S5) (a6 : S6) (a7 : S7), l = pre ++ xs → i = (pre.length : Int) → L xs a0 a1 a2 a3 a4 a5 a6 a7 = some r → X (.loop f m c (T' i a0 a1 a2 a3 a4 a5 a6 a7) (S' i a0 a1 a2 a3 a4 a5 a6 a7) K) := by
    intro xs
    induction xs with
    | nil => intro pre i a0 a1 a2 a3 a4 a5 a6 a7 hl hi h; exact hend i a0 a1 a2 a3 a4 a5 a6 a7 (by rw [hl, hi]; simp) h
    | cons x xs ih => intro pre i a0 a1 a2 a3 a4 a5 a6 a7 hl hi h; exact hstep pre x xs i a0 a1 a2 a3 a4 a5 a6 a7 hl hi h fun i' b0 b1 b2 b3 b4 b5 b6 b7 hi' h' => by subst hi'; exact ih (pre ++ [x]) (i + 1) b0 b1 b2 b3 b4 b5 b6 b7 (by rw [hl]; simp) (by rw [hi]; simp) h'
  exact key l [] 0 a0 a1 a2 a3 a4 a5 a6 a7 rfl rfl h
end Go.Proofs.Ytijkfjahgijphaa
